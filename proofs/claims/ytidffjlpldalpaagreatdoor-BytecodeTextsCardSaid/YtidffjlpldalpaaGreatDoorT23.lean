/- The state while a body is read: what stays, block by block. -/
import Derived.Test.YtidffjlpldalpaaGreatDoorT22
import Derived.Shelf.Bytes.SlEqualAll
import Derived.Deep.AppendLies
set_option linter.unusedVariables false
set_option linter.unusedSimpArgs false
namespace Go.Proofs.YtidffjlpldalpaaGreatDoor
open Go Go.RowKit

theorem grown_only {rb : Nat} {w w' : World} (h : OnlyAt rb w w') : w.grownBy w' (some rb) := ⟨h.os, h.tape, h.output, Nat.le_of_eq h.size.symm, fun k _ hk => h.block k (fun e => hk (by rw [e]))⟩
theorem grown_below {w w' : World} (h : Below w.heap.size w w') : w.grownBy w' none := ⟨h.os, h.tape, h.output, h.size, fun k hk _ => h.block k hk⟩
theorem grown_alloc (w : World) (o : Obj) : w.grownBy (w.alloc o) none := grown_below ((Below.refl _ _).alloc (Nat.le_refl _) _)
theorem grown_set (w : World) (b o : Nat) (u : Value) : w.grownBy (w.setCell ⟨b, o, none⟩ u) (some b) := grown_only (OnlyAt.set _ _ _ _)
theorem grown_under {w w' : World} {r : Option Nat} {B : Nat} (h : w.grownBy w' r) (hB : B ≤ w.heap.size) (hr : ∀ k, r = some k → B ≤ k) : Below B w w' :=
  ⟨h.os, h.tape, h.output, h.size, fun k hk => h.block k (by omega) (fun e => by have := hr k e.symm; omega)⟩
theorem RdAt.grown {V V' : World} {rb : Nat} {l : List Int} {bad : Bool} {r : Option Nat} (h : RdAt V rb l bad) (hg : V.grownBy V' r) (hr : ∀ k, r = some k → rb < k) : RdAt V' rb l bad := by
  obtain ⟨a, c, h1, h2, h3⟩ := h
  have hlt := heap_lt h1
  refine ⟨a, c, (hg.block rb hlt (fun e => by have := hr rb e.symm; omega)).trans h1, h2, fun h0 => ?_⟩
  obtain ⟨b, off, ha, hb, hc⟩ := h3 h0
  exact ⟨b, off, ha, hb, fun j hj => (World.cell?_of_block (a := ⟨b, off + j, none⟩) (hg.block b (by omega) (fun e => by have := hr b e.symm; omega))).trans (hc j hj)⟩

/-- The reader lies behind the result, the program behind the reader. -/
structure BSt (w V : World) (l : List Int) (bad : Bool) (fv tv : Value) (main : Int) : Prop where
  below : Below w.heap.size w V
  rd : RdAt V (w.heap.size + 1) l bad
  pr : V.heap[w.heap.size + 1 + 1]? = some (.cells #[fv, tv, .int .i64 main] 25 (0, 0))
  rs : V.heap[w.heap.size]? = some (.cells #[.slice none 0 0, .slice none 0 0, .int .i64 0] 25 (0, 0))
theorem BSt.lt {w V : World} {l : List Int} {bad : Bool} {fv tv : Value} {main : Int} (h : BSt w V l bad fv tv main) : w.heap.size + 1 + 1 < V.heap.size := heap_lt h.pr
theorem BSt.grown {w V V' : World} {l : List Int} {bad : Bool} {fv tv : Value} {main : Int} {r : Option Nat} (h : BSt w V l bad fv tv main) (hg : V.grownBy V' r) (hr : ∀ k, r = some k → w.heap.size + 1 + 1 < k) : BSt w V' l bad fv tv main := by
  have hlt := h.lt
  refine ⟨h.below.trans (grown_under hg (by omega) (fun k hk => by have := hr k hk; omega)), h.rd.grown hg (fun k hk => by have := hr k hk; omega), ?_, ?_⟩
  · exact (hg.block _ hlt (fun e => by have := hr _ e.symm; omega)).trans h.pr
  · exact (hg.block _ (by omega) (fun e => by have := hr _ e.symm; omega)).trans h.rs
theorem grown_both {a b c : World} {r : Option Nat} (h : a.grownBy b r) (k : b.grownBy c r) : a.grownBy c r :=
  ⟨k.os.trans h.os, k.tape.trans h.tape, k.output.trans h.output, Nat.le_trans h.size k.size, fun q hq hr => (k.block q (Nat.lt_of_lt_of_le hq h.size) hr).trans (h.block q hq hr)⟩
theorem BSt.set {w V : World} {l : List Int} {bad : Bool} {fv tv : Value} {main : Int} (h : BSt w V l bad fv tv main) (i : Nat) (u : Value) {fv' tv' : Value} {main' : Int} (he : (#[fv, tv, .int .i64 main] : Array Value).setIfInBounds i u = #[fv', tv', .int .i64 main']) : BSt w (V.setCell ⟨w.heap.size + 1 + 1, i, none⟩ u) l bad fv' tv' main' := by
  have hg := grown_set V (w.heap.size + 1 + 1) i u
  have hlt := h.lt
  refine ⟨h.below.trans (grown_under hg (by omega) (fun k hk => by cases hk; omega)), h.rd.grown hg (fun k hk => by cases hk; omega), ?_, ?_⟩
  · rw [heap_set_same h.pr]; exact congrArg (fun a => some (Obj.cells a 25 (0, 0))) he
  · exact (hg.block _ (by omega) (fun e => by have := Option.some.inj e; omega)).trans h.rs

/-- A row in the blocks from lo to hi. -/
def RowR (V : World) (lo hi : Nat) (v : Value) (n : Nat) (xs : List Value) : Prop := IsRow V v n xs ∧ hi ≤ V.heap.size ∧ ∀ b off sp m c, v = .slice (some ⟨b, off, sp⟩) m c → lo ≤ b ∧ b < hi
theorem RowR.grown {V V' : World} {lo hi : Nat} {v : Value} {n : Nat} {xs : List Value} {r : Option Nat} (h : RowR V lo hi v n xs) (hg : V.grownBy V' r) (hr : ∀ k, r = some k → k < lo ∨ hi ≤ k) : RowR V' lo hi v n xs := by
  obtain ⟨⟨a, c, rfl, hlc, hl⟩, h2, h3⟩ := h
  refine ⟨⟨a, c, rfl, hlc, fun h0 => ?_⟩, Nat.le_trans h2 hg.size, h3⟩
  obtain ⟨b, off, rfl, hlt, hc⟩ := hl h0
  have hb := h3 b off none _ _ rfl
  exact ⟨b, off, rfl, Nat.lt_of_lt_of_le hlt hg.size, fun j hj => (World.cell?_of_block (a := ⟨b, off + j, none⟩) (hg.block b hlt (fun e => by have := hr b e.symm; omega))).trans (hc j hj)⟩
theorem owns_grown {V V' : World} {B : Nat} {e : TypeId} {s n : Nat} {v : Value} {xs : List Value} {r : Option Nat} (h : V.ownsRow B e s v n xs) (hg : V.grownBy V' r) (hr : ∀ k, r = some k → v.ownBlock ≠ some k) : V'.ownsRow B e s v n xs := by
  obtain ⟨h1, h2⟩ := h
  refine ⟨h1, ?_⟩
  rcases h2 with h2 | ⟨g, cap, cur, rfl, hb, hh, hrest⟩
  · exact .inl h2
  · exact .inr ⟨g, cap, cur, rfl, hb, (hg.block g (heap_lt hh) (fun e => hr g e.symm rfl)).trans hh, hrest⟩
theorem owns_lt {V : World} {B : Nat} {e : TypeId} {s n : Nat} {v : Value} {xs : List Value} (h : V.ownsRow B e s v n xs) (g : Nat) (hg : v.ownBlock = some g) : B ≤ g ∧ g < V.heap.size := by
  obtain ⟨_, h2⟩ := h
  rcases h2 with ⟨rfl, _⟩ | ⟨g', cap, cur, rfl, hb, hh, _⟩
  · cases hg
  · cases hg; exact ⟨hb, heap_lt hh⟩

/-- The functions read so far: their row and their codes lie in the blocks from B to hi, apart. -/
structure FSt (V : World) (B hi : Nat) (fv : Value) (fs : List FunD) : Prop where
  own : V.ownsRow B 48 4 fv fs.length (funCells fs)
  top : hi ≤ V.heap.size
  lt : ∀ g, fv.ownBlock = some g → g < hi
  codes : ∀ f ∈ fs, RowR V B hi f.v f.code.length (insCells f.code) ∧ ∀ b off sp m c, f.v = .slice (some ⟨b, off, sp⟩) m c → fv.ownBlock ≠ some b
theorem FSt.grown {V V' : World} {B hi : Nat} {fv : Value} {fs : List FunD} {r : Option Nat} (h : FSt V B hi fv fs) (hg : V.grownBy V' r) (hr : ∀ k, r = some k → k < B ∨ hi ≤ k) : FSt V' B hi fv fs :=
  ⟨owns_grown h.own hg (fun k hk e => by have h1 := (owns_lt h.own k e).1; have h2 := h.lt k e; have := hr k hk; omega), Nat.le_trans h.top hg.size, h.lt, fun f hf => ⟨(h.codes f hf).1.grown hg hr, (h.codes f hf).2⟩⟩
theorem FSt.nil (V : World) : FSt V V.heap.size V.heap.size (.slice none 0 0) [] :=
  ⟨⟨rfl, .inl ⟨rfl, rfl⟩⟩, Nat.le_refl _, fun g hg => (by cases hg), fun f hf => (by cases hf)⟩
theorem funCells_app (fs : List FunD) (f : FunD) : funCells (fs ++ [f]) = funCells fs ++ [.int .i64 f.c, .int .i64 f.l, .int .i64 f.d, f.v] := by simp [funCells]
/-- What was read is a program. -/
theorem FSt.prog {V : World} {B hi lo hi' : Nat} {fv tv : Value} {fs : List FunD} {ts : List ByteArray} (h : FSt V B hi fv fs) (ht : RowR V lo hi' tv ts.length (strCells ts)) (main : Int) : IsProg V fv tv ⟨fs, ts, main⟩ :=
  ⟨⟨isRow_owns h.own, fun f hf => (h.codes f hf).1.1⟩, ht.1⟩
theorem info_str : (Tryz.prog.info? 9).map (fun i => (i.zero, i.size, i.bytes)) = some (some (.string ByteArray.empty), 1, 16) := by kernel_rfl
theorem info_instr : (Tryz.prog.info? 64).map (fun i => (i.zero, i.size, i.bytes)) = some (some (.agg #[.int .i64 0, .int .i64 0, .int .i64 0]), 3, 24) := by kernel_rfl
theorem info_fun : (Tryz.prog.info? 48).map (fun i => (i.zero, i.size, i.bytes)) = some (some (.agg #[.int .i64 0, .int .i64 0, .int .i64 0, .slice none 0 0]), 4, 48) := by kernel_rfl
/-- string(b). -/
theorem conv_str {w : World} {a : Option Addr} (n c : Nat) (xs : List Int) (hx : xs.length = n) (h : 0 < n → ∃ b off, a = some ⟨b, off, none⟩ ∧ ∀ j, j < n → w.cell? ⟨b, off + j, none⟩ = some (.int .u8 (xs.getD j 0))) :
    (convert 38 9 (.slice a n c)).run Tryz.prog w = .ok (.string (strOf xs)) w :=
  Lib.BytesIn.convert (xs := xs) (fun h0 => h h0) hx c _ _ _ Tryz.underlying38 Tryz.underlying5 Tryz.underlying9
end Go.Proofs.YtidffjlpldalpaaGreatDoor
