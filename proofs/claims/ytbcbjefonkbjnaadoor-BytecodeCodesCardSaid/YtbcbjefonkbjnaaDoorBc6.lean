/- The program that yields 7. -/
import Derived.Test.YtbcbjefonkbjnaaDoorBc5
namespace Go.Proofs.YtbcbjefonkbjnaaDoor
open Go Go.RowKit

structure FunD where
  c : Int
  l : Int
  d : Int
  v : Value
  code : List Ins
  deriving Inhabited
def funCells (l : List FunD) : List Value := l.flatMap fun f => [.int .i64 f.c, .int .i64 f.l, .int .i64 f.d, f.v]
/-- The functions of a program read as a list. -/
def IsFuns (w : World) (v : Value) (l : List FunD) : Prop := IsRow w v l.length (funCells l) ∧ ∀ f ∈ l, IsCode w f.v f.code
theorem IsFuns.below {w w' : World} {v : Value} {l : List FunD} (h : IsFuns w v l) (hb : Below w.heap.size w w') : IsFuns w' v l :=
  ⟨h.1.below hb, fun f hf => (h.2 f hf).below hb⟩
/-- The functions of seven(). -/
def sevenF (v : Value) : FunD := ⟨0, 1, 1, v, [⟨1, 7, 0⟩, ⟨9, 0, 0⟩]⟩
def SevenOk (w : World) (e : Ending) (w' : World) : Prop := ∃ fv cv, e = .returned (.agg #[fv, .slice none 0 0, .int .i64 0]) ∧ IsFuns w' fv [sevenF cv] ∧ Below w.heap.size w w'
theorem isRow_alloc' (w : World) (n m : Nat) (xs : List Value) (t : TypeId) (hn : w.heap.size = n) : IsRow (w.alloc (.cells xs.toArray t)) (.slice (some ⟨n, 0, none⟩) m m) m xs := by subst hn; exact isRow_alloc w m xs t
theorem prog_info : (Tryd.prog.info? 25).map (·.size) = some 3 := by kernel_rfl
set_option maxRecDepth 100000 in
theorem seven_any (w : World) : Calls Tryd.prog 27 #[] w (SevenOk w) := by
  go_enter Tryd.func27, Tryd.ntmps27
  go_wp2_with fail
  refine bodyPost_ret (v := .agg #[.slice (some ⟨w.heap.size + 1 + 1, 0, none⟩) 1 1, .slice none 0 0, .int .i64 0]) ?_ rfl ?_
  · exact results_cell_row rfl _ _ w.heap.size 25 _ (0, 0) _ rfl ((Below.heap_alloc _ _ _ (by simp; omega)).trans ((Below.heap_alloc _ _ _ (by simp)).trans (new_heap w _))) Tryd.underlying25 rfl prog_info
  · refine ⟨_, .slice (some ⟨w.heap.size + 1, 0, none⟩) 2 2, rfl, ⟨?_, ?_⟩, (((Below.refl _ _).alloc (Nat.le_refl _) _).alloc (by simp) _).alloc (by simp; omega) _⟩
    · exact isRow_alloc' _ _ 1 (funCells [sevenF _]) _ (by simp)
    · intro f hf
      obtain rfl : f = _ := by simpa using hf
      exact (isRow_alloc' (w.alloc _) (w.heap.size + 1) 2 (insCells [⟨1, 7, 0⟩, ⟨9, 0, 0⟩]) 32 (by simp)).below ((Below.refl _ _).alloc (Nat.le_refl _) _)
end Go.Proofs.YtbcbjefonkbjnaaDoor
