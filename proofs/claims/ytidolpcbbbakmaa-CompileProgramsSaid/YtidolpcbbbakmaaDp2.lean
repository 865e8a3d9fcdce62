/- The walk of Depth: what lies where. -/
import Derived.Test.YtidolpcbbbakmaaDp1
import Derived.Deep.OwnRows
import Derived.ArgAppend
import Derived.Deep.DeepCutAuto
namespace Go.Proofs.Ytidolpcbbbakmaa
open Go Go.RowKit

theorem heap_lt {w : World} {b : Nat} {o : Obj} (h : w.heap[b]? = some o) : b < w.heap.size := (Array.getElem?_eq_some_iff.1 h).1
theorem heap_set_same {w : World} {b i : Nat} {cs : Array Value} {T : TypeId} {fr : Nat × Nat} (hb : w.heap[b]? = some (.cells cs T fr)) (v : Value) : (w.setCell ⟨b, i, none⟩ v).heap[b]? = some (.cells (cs.setIfInBounds i v) T fr) := by
  simp [World.setCell, Array.getElem?_modify, hb]
theorem grown_below {w w' : World} (h : Below w.heap.size w w') : w.grownBy w' none := ⟨h.os, h.tape, h.output, h.size, fun k hk _ => h.block k hk⟩
theorem grown_alloc (w : World) (o : Obj) : w.grownBy (w.alloc o) none := grown_below ((Below.refl _ _).alloc (Nat.le_refl _) _)
theorem grown_set (w : World) (b o : Nat) (u : Value) : w.grownBy (w.setCell ⟨b, o, none⟩ u) (some b) := ⟨rfl, rfl, rfl, by simp, fun k _ hk => Below.heap_setCell _ _ _ _ (fun e => hk (by simp [e]))⟩
theorem grown_under {w w' : World} {r : Option Nat} {B : Nat} (h : w.grownBy w' r) (hB : B ≤ w.heap.size) (hr : ∀ k, r = some k → B ≤ k) : Below B w w' :=
  ⟨h.os, h.tape, h.output, h.size, fun k hk => h.block k (by omega) (fun e => by have := hr k e.symm; omega)⟩
theorem wrap_ok (z : Int) (h0 : -9223372036854775808 ≤ z) (h1 : z ≤ 9223372036854775807) : IntKind.i64.wrap z = z := by rw [IntKind.wrap_i64]; omega

/-- The labels. -/
def BsAt (V : World) (b : Nat) (bs : List Int) : Prop := V.heap[b]? = some (.cells (ints bs).toArray 3 (0, 0))
theorem BsAt.cell {V : World} {b : Nat} {bs : List Int} (h : BsAt V b bs) (i : Nat) (hi : i < bs.length) : V.cell? ⟨b, i, none⟩ = some (.int .i64 (bs.getD i (-1))) ∧ V.frozen? ⟨b, i, none⟩ = false := by
  refine ⟨?_, Lib.frozen_of_heap h i⟩
  simp only [World.cell?, show V.heap[b]? = _ from h]
  simp [ints, List.getD, hi]
theorem BsAt.set {V : World} {b : Nat} {bs : List Int} (h : BsAt V b bs) (i : Nat) (x : Int) : BsAt (V.setCell ⟨b, i, none⟩ (.int .i64 x)) b (bs.set i x) := by
  unfold BsAt
  rw [heap_set_same h]
  congr 2
  simp [ints, List.map_set]
theorem BsAt.grown {V V' : World} {b : Nat} {bs : List Int} {r : Option Nat} (h : BsAt V b bs) (hg : V.grownBy V' r) (hr : r ≠ some b) : BsAt V' b bs := (hg.block b (heap_lt h) (fun e => hr e.symm)).trans h
def isNeg : Value → Bool
  | .int _ n => n == -1
  | _ => false
def negs (V : World) (b : Nat) : Nat :=
  match V.heap[b]? with
  | some (.cells cur _ _) => cur.toList.countP isNeg
  | _ => 0
theorem BsAt.negs {V : World} {b : Nat} {bs : List Int} (h : BsAt V b bs) : negs V b = unl bs := by
  unfold Proofs.Ytidolpcbbbakmaa.negs
  rw [show V.heap[b]? = _ from h]
  simp only [ints, unl, List.count, List.countP_map]
  rfl
def lenOf : Value → Nat
  | .slice _ n _ => n
  | _ => 0

def natCells (l : List Nat) : List Value := l.map fun (t : Nat) => Value.int .i64 (t : Int)
/-- The places to do: a row of its own, wherever it begins. -/
def QRow (V : World) (lo : Nat) (tv : Value) (todo : List Nat) : Prop :=
  ∃ b off cap cur, tv = .slice (some ⟨b, off, none⟩) todo.length cap ∧ lo ≤ b ∧ V.heap[b]? = some (.cells cur 3 (0, 0)) ∧ todo.length ≤ cap ∧ off + cap ≤ cur.size ∧ ∀ j, j < todo.length → cur[off + j]? = some (.int .i64 ((todo.getD j 0 : Nat) : Int))
theorem QRow.grown {V V' : World} {lo : Nat} {tv : Value} {todo : List Nat} {r : Option Nat} (h : QRow V lo tv todo) (hg : V.grownBy V' r) (hr : ∀ k, r = some k → k < lo) : QRow V' lo tv todo := by
  obtain ⟨b, off, cap, cur, h1, h2, h3, h4⟩ := h
  exact ⟨b, off, cap, cur, h1, h2, (hg.block b (heap_lt h3) (fun e => by have := hr b e.symm; omega)).trans h3, h4⟩
theorem q_start (V : World) (lo n : Nat) (hn : V.heap.size = n) (hlo : lo ≤ n) : QRow (V.alloc (.cells #[.int .i64 0] 3)) lo (.slice (some ⟨n, 0, none⟩) 1 1) [0] := by
  subst hn
  refine ⟨_, 0, 1, _, rfl, hlo, new_heap V _, Nat.le_refl _, Nat.le_refl _, fun j hj => ?_⟩
  obtain rfl : j = 0 := by simpa using hj
  rfl
theorem QRow.first {V : World} {lo : Nat} {tv : Value} {c : Nat} {rest : List Nat} (h : QRow V lo tv (c :: rest)) : ∃ b off cap, tv = .slice (some ⟨b, off, none⟩) (rest.length + 1) cap ∧ lo ≤ b ∧ b < V.heap.size ∧ rest.length + 1 ≤ cap ∧ V.cell? ⟨b, off, none⟩ = some (.int .i64 (c : Int)) ∧
    QRow V lo (.slice (some ⟨b, if cap = 1 then off else off + 1, none⟩) rest.length (cap - 1)) rest := by
  obtain ⟨b, off, cap, cur, h1, h2, h3, h4, h5, h6⟩ := h
  simp only [List.length_cons] at h1 h4 h6
  refine ⟨b, off, cap, h1, h2, heap_lt h3, h4, ?_, ?_⟩
  · have := h6 0 (by omega)
    simp only [World.cell?, h3]
    simpa using this
  · refine ⟨b, _, cap - 1, cur, rfl, h2, h3, by omega, by split <;> omega, fun j hj => ?_⟩
    rw [if_neg (by omega), show off + 1 + j = off + (j + 1) by omega, h6 (j + 1) (by omega)]
    simp [List.getD]
theorem QRow.last {V : World} {lo : Nat} {tv : Value} {c : Nat} {rest : List Nat} (h : QRow V lo tv (rest ++ [c])) : ∃ b off cap, tv = .slice (some ⟨b, off, none⟩) (rest.length + 1) cap ∧ lo ≤ b ∧ b < V.heap.size ∧ rest.length + 1 ≤ cap ∧ V.cell? ⟨b, off + rest.length, none⟩ = some (.int .i64 (c : Int)) ∧
    QRow V lo (.slice (some ⟨b, off, none⟩) rest.length cap) rest := by
  obtain ⟨b, off, cap, cur, h1, h2, h3, h4, h5, h6⟩ := h
  simp only [List.length_append, List.length_singleton] at h1 h4 h6
  refine ⟨b, off, cap, h1, h2, heap_lt h3, h4, ?_, ?_⟩
  · have := h6 rest.length (by omega)
    simp only [World.cell?, h3]
    rw [this]; simp [List.getD]
  · refine ⟨b, off, cap, cur, rfl, h2, h3, by omega, by omega, fun j hj => ?_⟩
    rw [h6 j (by omega)]
    simp only [List.getD_eq_getElem?_getD]
    rw [List.getElem?_append_left hj]
/-- What append asks of the row. -/
theorem QRow.form {V : World} {lo : Nat} {tv : Value} {todo : List Nat} (h : QRow V lo tv todo) : ∃ b off cap, tv = .slice (some ⟨b, off, none⟩) todo.length cap ∧ lo ≤ b ∧ b < V.heap.size ∧ todo.length ≤ cap ∧
    (∀ j u, (natCells todo)[j]? = some u → V.cell? ⟨b, off + j, none⟩ = some u) ∧
    (todo.length + 1 ≤ cap → (V.cell? ⟨b, off + todo.length, none⟩).isSome = true ∧ V.frozen? ⟨b, off + todo.length, none⟩ = false) ∧
    (todo.length + 1 ≤ cap → ∀ x : Nat, QRow (V.setCell ⟨b, off + todo.length, none⟩ (.int .i64 (x : Int))) lo (.slice (some ⟨b, off, none⟩) (todo.length + 1) cap) (todo ++ [x])) := by
  obtain ⟨b, off, cap, cur, h1, h2, h3, h4, h5, h6⟩ := h
  refine ⟨b, off, cap, h1, h2, heap_lt h3, h4, fun j u hj => ?_, fun hr => ⟨?_, Lib.frozen_of_heap h3 _⟩, fun hr x => ?_⟩
  · unfold natCells at hj
    rw [List.getElem?_map] at hj
    obtain ⟨t, ht, rfl⟩ := Option.map_eq_some_iff.1 hj
    have hl := (List.getElem?_eq_some_iff.1 ht).1
    simp only [World.cell?, h3]
    rw [h6 j hl]; simp [List.getD, ht]
  · simp only [World.cell?, h3]
    rw [Array.getElem?_eq_getElem (by omega)]; rfl
  · refine ⟨b, off, cap, _, by simp, h2, heap_set_same h3 _, by simp; omega, by simp; omega, fun j hj => ?_⟩
    rw [Array.getElem?_setIfInBounds]
    simp only [List.length_append, List.length_singleton] at hj
    by_cases e : j = todo.length
    · subst e
      rw [if_pos rfl, if_pos (by omega)]; simp [List.getD]
    · rw [if_neg (by omega), h6 j (by omega)]
      simp only [List.getD_eq_getElem?_getD]
      rw [List.getElem?_append_left (by omega)]
theorem QRow.new {V : World} {lo B n : Nat} {v : Value} {todo : List Nat} (h : V.ownsRow B 3 1 v n (natCells todo)) (hn : todo.length = n) (h0 : 0 < n) (hlo : lo ≤ B) : QRow V lo v todo := by
  subst hn
  obtain ⟨h1, h2⟩ := h
  rcases h2 with ⟨_, e⟩ | ⟨g, cap, cur, rfl, hb, hh, hn, _, hs, ht⟩
  · omega
  · refine ⟨g, 0, cap, cur, rfl, by omega, hh, hn, by omega, fun j hj => ?_⟩
    have e1 : cur.toList[j]? = (natCells todo)[j]? := by
      rw [← ht, List.getElem?_take, if_pos (by omega)]
    unfold natCells at e1
    rw [Nat.zero_add, ← Array.getElem?_toList, e1, List.getElem?_map, List.getElem?_eq_getElem hj]
    simp [List.getD, hj]
theorem map_app (todo : List Nat) (x : Nat) : natCells (todo ++ [x]) = natCells todo ++ [.int .i64 (x : Int)] := by simp [natCells]
theorem made_bs (n : Nat) : (madeCells #[Value.int .i64 0] n) = (ints (List.replicate n 0)).toArray := by
  apply Array.ext'
  rw [toList_madeCells_one]; simp [ints]
theorem info_int' : (Try.prog.info? 3).map (fun i => (i.zero, i.size, i.bytes)) = some (some (.int .i64 0), 1, 8) := info_int
theorem code_at {w : World} {v : Value} {l : List Ins} (h : IsCode w v l) (n : Nat) (hn : n < l.length) :
    ∃ b off c, v = .slice (some ⟨b, off, none⟩) l.length c ∧ l.length ≤ c ∧ b < w.heap.size ∧ w.cell? ⟨b, off + n * 3, none⟩ = some (.int .i64 (l.getD n default).op) ∧ w.cell? ⟨b, off + n * 3 + 1, none⟩ = some (.int .i64 (l.getD n default).a) ∧ w.cell? ⟨b, off + n * 3 + 2, none⟩ = some (.int .i64 (l.getD n default).b) := by
  obtain ⟨a, c, rfl, hlc, hcell⟩ := h
  obtain ⟨b, off, rfl, hlt, hc⟩ := hcell (by omega)
  obtain ⟨c0, c1, c2⟩ := insCells_at l n hn
  have hlen := insCells_length l
  refine ⟨b, off, c, rfl, hlc, hlt, ?_, ?_, ?_⟩
  · rw [hc (n * 3) (by omega), c0]
  · rw [Nat.add_assoc, hc (n * 3 + 1) (by omega), c1]
  · rw [Nat.add_assoc, hc (n * 3 + 2) (by omega), c2]
theorem fun_cells {w : World} {q : Nat} {x y z u : Value} {t : TypeId} (h : w.heap[q]? = some (.cells #[x, y, z, u] t (0, 0))) : w.cell? ⟨q, 0, none⟩ = some x ∧ w.cell? ⟨q, 1, none⟩ = some y ∧ w.cell? ⟨q, 2, none⟩ = some z ∧ w.cell? ⟨q, 3, none⟩ = some u := by
  simp [World.cell?, h]
theorem RowF.cell {B : Nat} {w : World} {v : Value} {l : List Int} (h : RowF B w v l.length (ints l)) (hl : 0 < l.length) : ∃ b off c, v = .slice (some ⟨b, off, none⟩) l.length c ∧ B ≤ b ∧ b < w.heap.size ∧ ∀ j, j < l.length → w.cell? ⟨b, off + j, none⟩ = some (.int .i64 (l.getD j 0)) := by
  obtain ⟨⟨a, c, rfl, hlc, hc⟩, hw⟩ := h
  obtain ⟨b, off, rfl, hlt, hx⟩ := hc hl
  exact ⟨b, off, c, rfl, hw _ _ _ _ _ rfl, hlt, fun j hj => by rw [hx j (by rw [ints_length]; exact hj), ints_at l j hj]⟩
/-- What the inner loop keeps: the labels, the places to do, the function's block, and the row of the targets (in the blocks from n2 to n3). -/
structure LSt (F : Obj) (N n2 n3 : Nat) (w w3 V : World) (tv : Value) (full : List Nat) (bs : List Int) : Prop where
  q : QRow V (N + 1 + 1) tv full
  qb : ∀ b off sp n c, tv = .slice (some ⟨b, off, sp⟩) n c → b < n2 ∨ n3 ≤ b
  bs : BsAt V (N + 1) bs
  f : V.heap[N]? = some F
  bw : Below N w V
  kp : ∀ q, n2 ≤ q → q < n3 → V.heap[q]? = w3.heap[q]?
  sz : n3 ≤ V.heap.size
  ord : N + 1 < n2
  up : n2 ≤ n3
theorem LSt.label {F : Obj} {N n2 n3 : Nat} {w w3 V : World} {tv : Value} {full : List Nat} {bs : List Int} (h : LSt F N n2 n3 w w3 V tv full bs) (t : Nat) (x : Int) : LSt F N n2 n3 w w3 (V.setCell ⟨N + 1, t, none⟩ (.int .i64 x)) tv full (bs.set t x) := by
  have hg := grown_set V (N + 1) t (.int .i64 x)
  have ho := h.ord
  have hs := h.sz
  have hu := h.up
  exact ⟨h.q.grown hg (fun k hk => by cases hk; omega), h.qb, h.bs.set t x, (hg.block N (by omega) (fun e => by have := Option.some.inj e; omega)).trans h.f, h.bw.trans (grown_under hg (by omega) (fun k hk => by cases hk; omega)), fun q h1 h2 => (hg.block q (by omega) (fun e => by have := Option.some.inj e; omega)).trans (h.kp q h1 h2), by simpa using hs, ho, hu⟩
theorem LSt.alloc {F : Obj} {N n2 n3 : Nat} {w w3 V : World} {tv : Value} {full : List Nat} {bs : List Int} (h : LSt F N n2 n3 w w3 V tv full bs) (o : Obj) : LSt F N n2 n3 w w3 (V.alloc o) tv full bs := by
  have hg := grown_alloc V o
  have ho := h.ord
  have hs := h.sz
  have hu := h.up
  exact ⟨h.q.grown hg (by nofun), h.qb, h.bs.grown hg (by nofun), (hg.block N (by omega) (by nofun)).trans h.f, h.bw.trans (grown_under hg (by omega) (by nofun)), fun q h1 h2 => (hg.block q (by omega) (by nofun)).trans (h.kp q h1 h2), by have := hg.size; omega, ho, hu⟩
theorem LSt.room {F : Obj} {N n2 n3 : Nat} {w w3 V : World} {full : List Nat} {bs : List Int} {b off cap n : Nat} (h : LSt F N n2 n3 w w3 V (.slice (some ⟨b, off, none⟩) n cap) full bs) (x : Nat) (m : Nat) (hb : N + 1 + 1 ≤ b) (hlt : b < V.heap.size) (o : Nat)
    (hq : QRow (V.setCell ⟨b, o, none⟩ (.int .i64 (x : Int))) (N + 1 + 1) (.slice (some ⟨b, off, none⟩) m cap) (full ++ [x])) : LSt F N n2 n3 w w3 (V.setCell ⟨b, o, none⟩ (.int .i64 (x : Int))) (.slice (some ⟨b, off, none⟩) m cap) (full ++ [x]) bs := by
  have hg := grown_set V b o (.int .i64 (x : Int))
  have ho := h.ord
  have hs := h.sz
  have hu := h.up
  have hbb := h.qb b off none n cap rfl
  exact ⟨hq, fun b' off' sp n' c e => by have := (Value.slice.inj e).1; simp at this; omega, h.bs.grown hg (fun e => by have := Option.some.inj e; omega), (hg.block N (by omega) (fun e => by have := Option.some.inj e; omega)).trans h.f, h.bw.trans (grown_under hg (by omega) (fun k hk => by cases hk; omega)), fun q h1 h2 => (hg.block q (by omega) (fun e => by have := Option.some.inj e; omega)).trans (h.kp q h1 h2), by simpa using hs, ho, hu⟩
theorem LSt.grow {F : Obj} {N n2 n3 : Nat} {w w3 V V' : World} {tv v' : Value} {full : List Nat} {bs : List Int} (h : LSt F N n2 n3 w w3 V tv full bs) (x n B : Nat) (hB : V.heap.size = B) (hn : full.length + 1 = n) (hown : V'.ownsRow B 3 1 v' n (natCells full ++ [.int .i64 (x : Int)])) (hg : V.grownBy V' none) : LSt F N n2 n3 w w3 V' v' (full ++ [x]) bs := by
  have ho := h.ord
  have hs := h.sz
  have hu := h.up
  subst hB
  rw [← map_app] at hown
  refine ⟨QRow.new hown (by simp; omega) (by omega) (by omega), fun b off sp n' c e => ?_, h.bs.grown hg (by nofun), (hg.block N (by omega) (by nofun)).trans h.f, h.bw.trans (grown_under hg (by omega) (by nofun)), fun q h1 h2 => (hg.block q (by omega) (by nofun)).trans (h.kp q h1 h2), by have := hg.size; omega, ho, hu⟩
  have := owns_ge hown b off sp n' c e; omega
end Go.Proofs.Ytidolpcbbbakmaa
