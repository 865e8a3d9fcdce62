/- The state while the reference reads a body. -/
import Derived.Test.YtidffjlpldalpaaGreatDoorT24
set_option linter.unusedVariables false
set_option linter.unusedSimpArgs false
namespace Go.Proofs.YtidffjlpldalpaaGreatDoor
open Go Go.RowKit

/-- The program lies behind the result. -/
structure QSt (w V : World) (fv tv : Value) (main : Int) : Prop where
  below : Below w.heap.size w V
  pr : V.heap[w.heap.size + 1]? = some (.cells #[fv, tv, .int .i64 main] 25 (0, 0))
  rs : V.heap[w.heap.size]? = some (.cells #[.slice none 0 0, .slice none 0 0, .int .i64 0] 25 (0, 0))
theorem QSt.lt {w V : World} {fv tv : Value} {main : Int} (h : QSt w V fv tv main) : w.heap.size + 1 < V.heap.size := heap_lt h.pr
theorem QSt.grown {w V V' : World} {fv tv : Value} {main : Int} {r : Option Nat} (h : QSt w V fv tv main) (hg : V.grownBy V' r) (hr : ∀ k, r = some k → w.heap.size + 1 < k) : QSt w V' fv tv main := by
  have hlt := h.lt
  exact ⟨h.below.trans (grown_under hg (by omega) (fun k hk => by have := hr k hk; omega)), (hg.block _ hlt (fun e => by have := hr _ e.symm; omega)).trans h.pr, (hg.block _ (by omega) (fun e => by have := hr _ e.symm; omega)).trans h.rs⟩
theorem QSt.set {w V : World} {fv tv : Value} {main : Int} (h : QSt w V fv tv main) (i : Nat) (u : Value) {fv' tv' : Value} {main' : Int} (he : (#[fv, tv, .int .i64 main] : Array Value).setIfInBounds i u = #[fv', tv', .int .i64 main']) : QSt w (V.setCell ⟨w.heap.size + 1, i, none⟩ u) fv' tv' main' := by
  have hg := grown_set V (w.heap.size + 1) i u
  have hlt := h.lt
  refine ⟨h.below.trans (grown_under hg (by omega) (fun k hk => by cases hk; omega)), ?_, ?_⟩
  · rw [heap_set_same h.pr]; exact congrArg (fun a => some (Obj.cells a 25 (0, 0))) he
  · exact (hg.block _ (by omega) (fun e => by have := Option.some.inj e; omega)).trans h.rs
theorem QSt.ret {w V : World} {fv0 tv0 : Value} {main0 : Int} (h : QSt w V fv0 tv0 main0) (fv tv : Value) (main : Int) : (((V.setCell ⟨w.heap.size, 0, none⟩ fv).setCell ⟨w.heap.size, 1, none⟩ tv).setCell ⟨w.heap.size, 2, none⟩ (.int .i64 main)).heap[w.heap.size]? = some (.cells #[fv, tv, .int .i64 main] 25 (0, 0)) ∧ V.grownBy (((V.setCell ⟨w.heap.size, 0, none⟩ fv).setCell ⟨w.heap.size, 1, none⟩ tv).setCell ⟨w.heap.size, 2, none⟩ (.int .i64 main)) (some w.heap.size) :=
  ⟨(heap_set_same (heap_set_same (heap_set_same h.rs _) _) _), grown_both (grown_both (grown_set V w.heap.size 0 fv) (grown_set _ w.heap.size 1 tv)) (grown_set _ w.heap.size 2 (.int .i64 main))⟩
theorem q_start (w : World) : QSt w ((w.alloc (.cells #[.slice none 0 0, .slice none 0 0, .int .i64 0] 25)).alloc (.cells #[.slice none 0 0, .slice none 0 0, .int .i64 0] 25)) (.slice none 0 0) (.slice none 0 0) 0 :=
  ⟨((Below.refl _ _).alloc (Nat.le_refl _) _).alloc (by simp) _, (congrArg _ (by simp)).trans (new_heap (w.alloc _) _), (Below.heap_alloc _ _ _ (by simp)).trans (new_heap w _)⟩
/-- What ends a reading: the result holds the program, and the program is one. -/
theorem QSt.done {w V : World} {fv tv : Value} {main : Int} (h : QSt w V fv tv main) {B hi lo hi' : Nat} {fs : List FunD} {ts : List ByteArray} (hF : FSt V B hi fv fs) (hX : RowR V lo hi' tv ts.length (strCells ts)) (hB : w.heap.size < B) (hlo : w.heap.size < lo) :
    Below w.heap.size w (((V.setCell ⟨w.heap.size, 0, none⟩ fv).setCell ⟨w.heap.size, 1, none⟩ tv).setCell ⟨w.heap.size, 2, none⟩ (.int .i64 main)) ∧ IsProg (((V.setCell ⟨w.heap.size, 0, none⟩ fv).setCell ⟨w.heap.size, 1, none⟩ tv).setCell ⟨w.heap.size, 2, none⟩ (.int .i64 main)) fv tv ⟨fs, ts, main⟩ := by
  have hr := (h.ret fv tv main).2
  have hlt := h.lt
  exact ⟨h.below.trans (grown_under hr (by omega) (fun z hz => by cases hz; exact Nat.le_refl _)), (hF.grown hr (fun z hz => by cases hz; left; exact hB)).prog (hX.grown hr (fun z hz => by cases hz; left; exact hlo)) main⟩

/-- The numbers read so far, in an array of m. -/
def ArrOk (V : World) (hb : Nat) (T : TypeId) (m : Nat) (hs : List Int) : Prop :=
  ∃ arr : Array Value, V.heap[hb]? = some (.cells arr T (0, 0)) ∧ arr.size = m ∧ (∀ i, i < m → ∃ x : Int, arr[i]? = some (.int .i64 x)) ∧ ∀ i, i < hs.length → arr[i]? = some (.int .i64 (hs.getD i 0))
theorem ArrOk.grown {V V' : World} {hb m : Nat} {T : TypeId} {hs : List Int} {r : Option Nat} (h : ArrOk V hb T m hs) (hg : V.grownBy V' r) (hr : r ≠ some hb) : ArrOk V' hb T m hs := by
  obtain ⟨arr, h1, h2⟩ := h
  exact ⟨arr, (hg.block _ (heap_lt h1) (fun e => hr e.symm)).trans h1, h2⟩
theorem ArrOk.set {V : World} {hb m : Nat} {T : TypeId} {hs : List Int} (h : ArrOk V hb T m hs) (k : Nat) (hk : hs.length = k) (hkm : k < m) (x : Int) : ArrOk (V.setCell ⟨hb, k, none⟩ (.int .i64 x)) hb T m (hs ++ [x]) := by
  subst hk
  obtain ⟨arr, h1, h2, h3, h4⟩ := h
  refine ⟨_, heap_set_same h1 _, by simp [h2], fun i hi => ?_, fun i hi => ?_⟩
  · by_cases e : hs.length = i
    · subst e; exact ⟨x, by rw [Array.getElem?_setIfInBounds, if_pos rfl, if_pos (by omega)]⟩
    · obtain ⟨y, hy⟩ := h3 i hi
      exact ⟨y, by rw [Array.getElem?_setIfInBounds, if_neg e]; exact hy⟩
  · by_cases e : hs.length = i
    · subst e; rw [Array.getElem?_setIfInBounds, if_pos rfl, if_pos (by omega)]; simp [List.getD]
    · rw [Array.getElem?_setIfInBounds, if_neg e]
      have hi' : i < hs.length := by simp at hi; omega
      rw [h4 i hi']; simp only [List.getD_eq_getElem?_getD]; rw [List.getElem?_append_left hi']
theorem ArrOk.cell {V : World} {hb m : Nat} {T : TypeId} {hs : List Int} (h : ArrOk V hb T m hs) (i : Nat) (hi : i < m) : (∃ x : Int, V.cell? ⟨hb, i, none⟩ = some (.int .i64 x)) ∧ V.frozen? ⟨hb, i, none⟩ = false := by
  obtain ⟨arr, h1, h2, h3, h4⟩ := h
  obtain ⟨x, hx⟩ := h3 i hi
  exact ⟨⟨x, by simp [World.cell?, h1, hx]⟩, Lib.frozen_of_heap h1 i⟩
theorem ArrOk.at {V : World} {hb m : Nat} {T : TypeId} {hs : List Int} (h : ArrOk V hb T m hs) (i : Nat) (hi : i < hs.length) : V.cell? ⟨hb, i, none⟩ = some (.int .i64 (hs.getD i 0)) := by
  obtain ⟨arr, h1, h2, h3, h4⟩ := h
  simp [World.cell?, h1, h4 i hi]
end Go.Proofs.YtidffjlpldalpaaGreatDoor
