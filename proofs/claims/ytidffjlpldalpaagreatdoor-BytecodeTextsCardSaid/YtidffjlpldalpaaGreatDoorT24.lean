/- body: a program is read as the plain parser says. -/
import Derived.Test.YtidffjlpldalpaaGreatDoorT23
set_option linter.unusedVariables false
set_option linter.unusedSimpArgs false
namespace Go.Proofs.YtidffjlpldalpaaGreatDoor
open Go Go.RowKit

theorem insCells_app (is : List Ins) (i : Ins) : insCells (is ++ [i]) = insCells is ++ [.int .i64 i.op, .int .i64 i.a, .int .i64 i.b] := by simp [insCells]
theorem owns_slice {V : World} {B : Nat} {e : TypeId} {s n : Nat} {v : Value} {xs : List Value} (h : V.ownsRow B e s v n xs) : ∃ a m c, v = .slice a m c := by
  obtain ⟨_, h2⟩ := h
  rcases h2 with ⟨rfl, _⟩ | ⟨g, cap, cur, rfl, _⟩
  · exact ⟨_, _, _, rfl⟩
  · exact ⟨_, _, _, rfl⟩
theorem BSt.ret {w V : World} {l : List Int} {bad : Bool} {fv0 tv0 : Value} {main0 : Int} (h : BSt w V l bad fv0 tv0 main0) (fv tv : Value) (main : Int) : (((V.setCell ⟨w.heap.size, 0, none⟩ fv).setCell ⟨w.heap.size, 1, none⟩ tv).setCell ⟨w.heap.size, 2, none⟩ (.int .i64 main)).drew.heap[w.heap.size]? = some (.cells #[fv, tv, .int .i64 main] 25 (0, 0)) ∧ V.grownBy (((V.setCell ⟨w.heap.size, 0, none⟩ fv).setCell ⟨w.heap.size, 1, none⟩ tv).setCell ⟨w.heap.size, 2, none⟩ (.int .i64 main)).drew (some w.heap.size) := by
  refine ⟨(heap_set_same (heap_set_same (heap_set_same h.rs _) _) _), ?_⟩
  have g := grown_both (grown_both (grown_set V w.heap.size 0 fv) (grown_set _ w.heap.size 1 tv)) (grown_set _ w.heap.size 2 (.int .i64 main))
  exact ⟨g.os, g.tape, g.output, g.size, g.block⟩
theorem OnlyAt.undrew {rb : Nat} {w w' : World} (h : OnlyAt rb w.drew w') : OnlyAt rb w w' := ⟨h.os, h.tape, h.output, h.size, h.block⟩
end Go.Proofs.YtidffjlpldalpaaGreatDoor
