/- The text of a program without texts: its list, and Text's walk. -/
import Derived.Test.YtidffjlpldalpaaGreatDoorT8
set_option linter.unusedVariables false
set_option linter.unusedSimpArgs false
namespace Go.Proofs.YtidffjlpldalpaaGreatDoor
open Go Go.RowKit

def lineU (s : ByteArray) (l : List Int) : List UInt8 := (lineS s l).data.toList
def insU (i : Ins) : List UInt8 := lineU (wordS i.op) ([i.a, i.b].take (opnds i.op).toNat)
def funU (f : FunD) : List UInt8 := lineU ⟨#[102, 117, 110]⟩ [f.c, f.l, f.d] ++ f.code.flatMap insU
def mainU (p : ProgD) : List UInt8 := lineU ⟨#[109, 97, 105, 110]⟩ [p.main]
def textU (p : ProgD) : List UInt8 := mainU p ++ p.funs.flatMap funU
theorem dropU {α : Type} (d : α) (l : List α) (f : α → List UInt8) (k : Nat) (h : k < l.length) : (l.drop k).flatMap f = f (l.getD k d) ++ (l.drop (k + 1)).flatMap f := by
  rw [List.drop_eq_getElem_cons h, List.flatMap_cons]; simp [List.getD, h]
theorem lenU_of {a b c : List UInt8} (h : a ++ b = c) : a.length + b.length = c.length := by rw [← h, List.length_append]
theorem lineU_length (s : ByteArray) (l : List Int) : (lineU s l).length = (lineS s l).size := by rw [lineU, Array.length_toList]; rfl
theorem BuilderAt.below {B b : Nat} {p : Value} {bs : List Value} {w w' : World} (h : Lib.BuilderAt 52 5 B b p bs w) (hb : Below w.heap.size w w') : Lib.BuilderAt 52 5 B b p bs w' := by
  obtain ⟨h1, v, hk, hown, hne⟩ := h
  refine ⟨h1, v, by rw [hb.block b (heap_lt hk)]; exact hk, ⟨hown.1, ?_⟩, hne⟩
  rcases hown.2 with h0 | ⟨g, cap, cur, hv, hg, hh, hr⟩
  · exact .inl h0
  · exact .inr ⟨g, cap, cur, hv, hg, by rw [hb.block g (heap_lt hh)]; exact hh, hr⟩
theorem BuilderAt.step {B b : Nat} {p : Value} {pre : List UInt8} {s : ByteArray} {w : World} (h : Lib.BuilderAt 52 5 B b p (Lib.byteCells pre ++ Lib.strCells s) w) : Lib.BuilderAt 52 5 B b p (Lib.byteCells (pre ++ s.data.toList)) w := by
  rw [Lib.byteCells_append]; exact h
theorem cellsLen (pre : List UInt8) : (Lib.byteCells pre).length = pre.length := Lib.byteCells_length pre
theorem bld_fresh (w : World) (B : Nat) (hB : B ≤ w.heap.size) : Lib.IsBuilder 52 5 B w.heap.size [] (w.alloc (.cells #[.pointer none, .slice none 0 0] 52)) :=
  .inl ⟨hB, .slice none 0 0, new_heap w _, World.ownsRow_nil _ _ _ _, by simp [Value.ownBlock]⟩
theorem IsBuilder.below {B b : Nat} {bs : List Value} {w w' : World} (h : Lib.IsBuilder 52 5 B b bs w) (hb : Below w.heap.size w w') : Lib.IsBuilder 52 5 B b bs w' := h.elim (fun x => .inl (BuilderAt.below x hb)) (fun x => .inr (BuilderAt.below x hb))
/-- Numbers that Itoa answers. -/
def ItoaAll (N : Int → Prop) (w : World) : Prop := ∀ l, (∀ x ∈ l, N x) → ItoaOk w l ∧ Short l
theorem ItoaAll.below {N : Int → Prop} {w w' : World} (h : ItoaAll N w) (hb : Below w.heap.size w w') : ItoaAll N w' := fun l hl =>
  ⟨fun w2 h2 x hx => (h l hl).1 w2 (hb.trans (h2.mono hb.size)) x hx, (h l hl).2⟩
def NumsOk (N : Int → Prop) (p : ProgD) : Prop := N p.main ∧ ∀ f ∈ p.funs, N f.c ∧ N f.l ∧ N f.d ∧ ∀ i ∈ f.code, N i.a ∧ N i.b
theorem lineS_small (s : ByteArray) (l : List Int) (hs : Short l) (hl : l.length ≤ 3) (h : s.size ≤ 100) : (lineS s l).size ≤ 1000 := by
  have := lineK_size s l hs l.length (Nat.le_refl _)
  unfold lineS
  rw [ByteArray.size_append]
  have e : (ByteArray.mk #[10]).size = 1 := rfl
  omega
theorem words_cells (n : Nat) (h : knownB (n : Int) = true) : wordsC[n * 2]? = some (.string (wordS n)) ∧ wordsC[n * 2 + 1]? = some (.int .i64 (opnds n)) ∧ (wordS (n : Int)).size ≤ 100 ∧ n < 17 ∧ 0 ≤ opnds n ∧ opnds n ≤ 2 := by
  have h1 : 1 ≤ n ∧ n ≤ 16 := by simp [knownB, inB] at h; omega
  rcases (by omega : n = 1 ∨ n = 2 ∨ n = 3 ∨ n = 4 ∨ n = 5 ∨ n = 6 ∨ n = 7 ∨ n = 8 ∨ n = 9 ∨ n = 10 ∨ n = 11 ∨ n = 12 ∨ n = 13 ∨ n = 14 ∨ n = 15 ∨ n = 16) with rfl | rfl | rfl | rfl | rfl | rfl | rfl | rfl | rfl | rfl | rfl | rfl | rfl | rfl | rfl | rfl
  all_goals exact ⟨by rfl, by rfl, by decide, by decide, by decide, by decide⟩
theorem isRow_take2 (w : World) (q m : Nat) (a b : Int) (t : TypeId) (hm : m ≤ 2) (hq : w.heap.size = q) : IsRow (w.alloc (.cells #[.int .i64 a, .int .i64 b] t)) (.slice (some ⟨q, 0, none⟩) m 2) ([a, b].take m).length (ints ([a, b].take m)) := by
  subst hq
  have hl : ([a, b].take m).length = m := by simp; omega
  refine ⟨_, _, by rw [hl], by rw [hl]; exact hm, fun _ => ⟨w.heap.size, 0, rfl, by simp, fun j hj => ?_⟩⟩
  rw [ints_length, hl] at hj
  rw [Nat.zero_add, cell_new]
  rcases (by omega : (m = 1 ∧ j = 0) ∨ (m = 2 ∧ j = 0) ∨ (m = 2 ∧ j = 1)) with ⟨rfl, rfl⟩ | ⟨rfl, rfl⟩ | ⟨rfl, rfl⟩ <;> rfl
theorem two_cells {w : World} {q : Nat} {x y : Value} {t : TypeId} (h : w.heap[q]? = some (.cells #[x, y] t (0, 0))) : w.cell? ⟨q, 0, none⟩ = some x ∧ w.cell? ⟨q, 1, none⟩ = some y := by
  simp [World.cell?, h]
theorem text_cells {w : World} {q r : Nat} {x y o a b : Value} {t u : TypeId} (h : w.heap[r]? = some (.cells #[x, y] t (0, 0))) (k : w.heap[q]? = some (.cells #[o, a, b] u (0, 0))) : w.cell? ⟨r, 0, none⟩ = some x ∧ w.cell? ⟨q, 1, none⟩ = some a ∧ w.cell? ⟨q, 2, none⟩ = some b ∧ w.cell? ⟨r, 1, none⟩ = some y :=
  ⟨(two_cells h).1, (ins_cells k).2.1, (ins_cells k).2.2, (two_cells h).2⟩
def TextOk (p : ProgD) (w : World) (e : Ending) (w' : World) : Prop := e = .returned (.tuple #[.string ⟨(textU p).toArray⟩, .int .i64 0]) ∧ Below w.heap.size w w'
end Go.Proofs.YtidffjlpldalpaaGreatDoor
