/- The walk of Depth: what lies where. Functions, programs, what is right, as plain data (the definitions of law 46). -/
import Derived.Test.YtidolpcbbbakmaaGreatM3
import Derived.Deep.OwnRows
import Derived.ArgAppend
import Derived.Deep.DeepCutAuto
import Derived.Deep.RegionHeld3
namespace Go.Proofs.YtidolpcbbbakmaaGreat
open Go Go.RowKit

theorem heap_lt {w : World} {b : Nat} {o : Obj} (h : w.heap[b]? = some o) : b < w.heap.size := (Array.getElem?_eq_some_iff.1 h).1
theorem heap_set_same {w : World} {b i : Nat} {cs : Array Value} {T : TypeId} {fr : Nat × Nat} (hb : w.heap[b]? = some (.cells cs T fr)) (v : Value) : (w.setCell ⟨b, i, none⟩ v).heap[b]? = some (.cells (cs.setIfInBounds i v) T fr) := by
  simp [World.setCell, Array.getElem?_modify, hb]
theorem grown_below {w w' : World} (h : Below w.heap.size w w') : w.grownBy w' none := ⟨h.os, h.tape, h.output, h.size, fun k hk _ => h.block k hk⟩
theorem grown_alloc (w : World) (o : Obj) : w.grownBy (w.alloc o) none := grown_below ((Below.refl _ _).alloc (Nat.le_refl _) _)
theorem grown_set (w : World) (b o : Nat) (u : Value) : w.grownBy (w.setCell ⟨b, o, none⟩ u) (some b) := ⟨rfl, rfl, rfl, by simp, fun k _ hk => Below.heap_setCell _ _ _ _ (fun e => hk (by simp [e]))⟩
theorem grown_under {w w' : World} {r : Option Nat} {B : Nat} (h : w.grownBy w' r) (hB : B ≤ w.heap.size) (hr : ∀ k, r = some k → B ≤ k) : Below B w w' :=
  ⟨h.os, h.tape, h.output, h.size, fun k hk => h.block k (by omega) (fun e => by have := hr k e.symm; omega)⟩
theorem wrap_ok (z : Int) (h0 : -9223372036854775808 ≤ z) (h1 : z ≤ 9223372036854775807) : IntKind.i64.wrap z = z := by rw [IntKind.wrap_i64]; omega

/-- The labels. -/
def BsAt (V : World) (b : Nat) (bs : List Int) : Prop := V.heap[b]? = some (.cells (ints bs).toArray 3 (0, 0))
theorem BsAt.cell {V : World} {b : Nat} {bs : List Int} (h : BsAt V b bs) (i : Nat) (hi : i < bs.length) : V.cell? ⟨b, i, none⟩ = some (.int .i64 (bs.getD i (-1))) ∧ V.frozen? ⟨b, i, none⟩ = false := by
  refine ⟨?_, Lib.frozen_of_heap h i⟩
  simp only [World.cell?, show V.heap[b]? = _ from h]
  simp [ints, List.getD, hi]
theorem BsAt.set {V : World} {b : Nat} {bs : List Int} (h : BsAt V b bs) (i : Nat) (x : Int) : BsAt (V.setCell ⟨b, i, none⟩ (.int .i64 x)) b (bs.set i x) := by
  unfold BsAt
  rw [heap_set_same h]
  congr 2
  simp [ints, List.map_set]
theorem BsAt.grown {V V' : World} {b : Nat} {bs : List Int} {r : Option Nat} (h : BsAt V b bs) (hg : V.grownBy V' r) (hr : r ≠ some b) : BsAt V' b bs := (hg.block b (heap_lt h) (fun e => hr e.symm)).trans h
def isNeg : Value → Bool
  | .int _ n => n == -1
  | _ => false
def negs (V : World) (b : Nat) : Nat :=
  match V.heap[b]? with
  | some (.cells cur _ _) => cur.toList.countP isNeg
  | _ => 0
theorem BsAt.negs {V : World} {b : Nat} {bs : List Int} (h : BsAt V b bs) : negs V b = unl bs := by
  unfold Proofs.YtidolpcbbbakmaaGreat.negs
  rw [show V.heap[b]? = _ from h]
  simp only [ints, unl, List.count, List.countP_map]
  rfl
def lenOf : Value → Nat
  | .slice _ n _ => n
  | _ => 0

def natCells (l : List Nat) : List Value := l.map fun (t : Nat) => Value.int .i64 (t : Int)
/-- The places to do: a row of its own, wherever it begins. -/
def QRow (V : World) (lo : Nat) (tv : Value) (todo : List Nat) : Prop :=
  ∃ b off cap cur, tv = .slice (some ⟨b, off, none⟩) todo.length cap ∧ lo ≤ b ∧ V.heap[b]? = some (.cells cur 3 (0, 0)) ∧ todo.length ≤ cap ∧ off + cap ≤ cur.size ∧ ∀ j, j < todo.length → cur[off + j]? = some (.int .i64 ((todo.getD j 0 : Nat) : Int))
theorem QRow.grown {V V' : World} {lo : Nat} {tv : Value} {todo : List Nat} {r : Option Nat} (h : QRow V lo tv todo) (hg : V.grownBy V' r) (hr : ∀ k, r = some k → k < lo) : QRow V' lo tv todo := by
  obtain ⟨b, off, cap, cur, h1, h2, h3, h4⟩ := h
  exact ⟨b, off, cap, cur, h1, h2, (hg.block b (heap_lt h3) (fun e => by have := hr b e.symm; omega)).trans h3, h4⟩
theorem q_start (V : World) (lo n : Nat) (hn : V.heap.size = n) (hlo : lo ≤ n) : QRow (V.alloc (.cells #[.int .i64 0] 3)) lo (.slice (some ⟨n, 0, none⟩) 1 1) [0] := by
  subst hn
  refine ⟨_, 0, 1, _, rfl, hlo, new_heap V _, Nat.le_refl _, Nat.le_refl _, fun j hj => ?_⟩
  obtain rfl : j = 0 := by simpa using hj
  rfl
theorem QRow.first {V : World} {lo : Nat} {tv : Value} {c : Nat} {rest : List Nat} (h : QRow V lo tv (c :: rest)) : ∃ b off cap, tv = .slice (some ⟨b, off, none⟩) (rest.length + 1) cap ∧ lo ≤ b ∧ b < V.heap.size ∧ rest.length + 1 ≤ cap ∧ V.cell? ⟨b, off, none⟩ = some (.int .i64 (c : Int)) ∧
    QRow V lo (.slice (some ⟨b, if cap = 1 then off else off + 1, none⟩) rest.length (cap - 1)) rest := by
  obtain ⟨b, off, cap, cur, h1, h2, h3, h4, h5, h6⟩ := h
  simp only [List.length_cons] at h1 h4 h6
  refine ⟨b, off, cap, h1, h2, heap_lt h3, h4, ?_, ?_⟩
  · have := h6 0 (by omega)
    simp only [World.cell?, h3]
    simpa using this
  · refine ⟨b, _, cap - 1, cur, rfl, h2, h3, by omega, by split <;> omega, fun j hj => ?_⟩
    rw [if_neg (by omega), show off + 1 + j = off + (j + 1) by omega, h6 (j + 1) (by omega)]
    simp [List.getD]
/-- What append asks of the row. -/
theorem QRow.form {V : World} {lo : Nat} {tv : Value} {todo : List Nat} (h : QRow V lo tv todo) : ∃ b off cap, tv = .slice (some ⟨b, off, none⟩) todo.length cap ∧ lo ≤ b ∧ b < V.heap.size ∧ todo.length ≤ cap ∧
    (∀ j u, (natCells todo)[j]? = some u → V.cell? ⟨b, off + j, none⟩ = some u) ∧
    (todo.length + 1 ≤ cap → (V.cell? ⟨b, off + todo.length, none⟩).isSome = true ∧ V.frozen? ⟨b, off + todo.length, none⟩ = false) ∧
    (todo.length + 1 ≤ cap → ∀ x : Nat, QRow (V.setCell ⟨b, off + todo.length, none⟩ (.int .i64 (x : Int))) lo (.slice (some ⟨b, off, none⟩) (todo.length + 1) cap) (todo ++ [x])) := by
  obtain ⟨b, off, cap, cur, h1, h2, h3, h4, h5, h6⟩ := h
  refine ⟨b, off, cap, h1, h2, heap_lt h3, h4, fun j u hj => ?_, fun hr => ⟨?_, Lib.frozen_of_heap h3 _⟩, fun hr x => ?_⟩
  · unfold natCells at hj
    rw [List.getElem?_map] at hj
    obtain ⟨t, ht, rfl⟩ := Option.map_eq_some_iff.1 hj
    have hl := (List.getElem?_eq_some_iff.1 ht).1
    simp only [World.cell?, h3]
    rw [h6 j hl]; simp [List.getD, ht]
  · simp only [World.cell?, h3]
    rw [Array.getElem?_eq_getElem (by omega)]; rfl
  · refine ⟨b, off, cap, _, by simp, h2, heap_set_same h3 _, by simp; omega, by simp; omega, fun j hj => ?_⟩
    rw [Array.getElem?_setIfInBounds]
    simp only [List.length_append, List.length_singleton] at hj
    by_cases e : j = todo.length
    · subst e
      rw [if_pos rfl, if_pos (by omega)]; simp [List.getD]
    · rw [if_neg (by omega), h6 j (by omega)]
      simp only [List.getD_eq_getElem?_getD]
      rw [List.getElem?_append_left (by omega)]
theorem QRow.new {V : World} {lo B n : Nat} {v : Value} {todo : List Nat} (h : V.ownsRow B 3 1 v n (natCells todo)) (hn : todo.length = n) (h0 : 0 < n) (hlo : lo ≤ B) : QRow V lo v todo := by
  subst hn
  obtain ⟨h1, h2⟩ := h
  rcases h2 with ⟨_, e⟩ | ⟨g, cap, cur, rfl, hb, hh, hn, _, hs, ht⟩
  · omega
  · refine ⟨g, 0, cap, cur, rfl, by omega, hh, hn, by omega, fun j hj => ?_⟩
    have e1 : cur.toList[j]? = (natCells todo)[j]? := by
      rw [← ht, List.getElem?_take, if_pos (by omega)]
    unfold natCells at e1
    rw [Nat.zero_add, ← Array.getElem?_toList, e1, List.getElem?_map, List.getElem?_eq_getElem hj]
    simp [List.getD, hj]
theorem map_app (todo : List Nat) (x : Nat) : natCells (todo ++ [x]) = natCells todo ++ [.int .i64 (x : Int)] := by simp [natCells]
theorem made_bs (n : Nat) : (madeCells #[Value.int .i64 0] n) = (ints (List.replicate n 0)).toArray := by
  apply Array.ext'
  rw [toList_madeCells_one]; simp [ints]
theorem info_int' : (Tryz.prog.info? 3).map (fun i => (i.zero, i.size, i.bytes)) = some (some (.int .i64 0), 1, 8) := info_int
theorem code_at {w : World} {v : Value} {l : List Ins} (h : IsCode w v l) (n : Nat) (hn : n < l.length) :
    ∃ b off c, v = .slice (some ⟨b, off, none⟩) l.length c ∧ l.length ≤ c ∧ b < w.heap.size ∧ w.cell? ⟨b, off + n * 3, none⟩ = some (.int .i64 (l.getD n default).op) ∧ w.cell? ⟨b, off + n * 3 + 1, none⟩ = some (.int .i64 (l.getD n default).a) ∧ w.cell? ⟨b, off + n * 3 + 2, none⟩ = some (.int .i64 (l.getD n default).b) := by
  obtain ⟨a, c, rfl, hlc, hcell⟩ := h
  obtain ⟨b, off, rfl, hlt, hc⟩ := hcell (by omega)
  obtain ⟨c0, c1, c2⟩ := insCells_at l n hn
  have hlen := insCells_length l
  refine ⟨b, off, c, rfl, hlc, hlt, ?_, ?_, ?_⟩
  · rw [hc (n * 3) (by omega), c0]
  · rw [Nat.add_assoc, hc (n * 3 + 1) (by omega), c1]
  · rw [Nat.add_assoc, hc (n * 3 + 2) (by omega), c2]
theorem fun_cells {w : World} {q : Nat} {x y z u : Value} {t : TypeId} (h : w.heap[q]? = some (.cells #[x, y, z, u] t (0, 0))) : w.cell? ⟨q, 0, none⟩ = some x ∧ w.cell? ⟨q, 1, none⟩ = some y ∧ w.cell? ⟨q, 2, none⟩ = some z ∧ w.cell? ⟨q, 3, none⟩ = some u := by
  simp [World.cell?, h]
theorem RowF.cell {B : Nat} {w : World} {v : Value} {l : List Int} (h : RowF B w v l.length (ints l)) (hl : 0 < l.length) : ∃ b off c, v = .slice (some ⟨b, off, none⟩) l.length c ∧ B ≤ b ∧ b < w.heap.size ∧ ∀ j, j < l.length → w.cell? ⟨b, off + j, none⟩ = some (.int .i64 (l.getD j 0)) := by
  obtain ⟨⟨a, c, rfl, hlc, hc⟩, hw⟩ := h
  obtain ⟨b, off, rfl, hlt, hx⟩ := hc hl
  exact ⟨b, off, c, rfl, hw _ _ _ _ _ rfl, hlt, fun j hj => by rw [hx j (by rw [ints_length]; exact hj), ints_at l j hj]⟩
/-- What the inner loop keeps: the labels, the places to do, the function's block, and the row of the targets (in the blocks from n2 to n3). -/
structure LSt (F : Obj) (N n2 n3 : Nat) (w w3 V : World) (tv : Value) (full : List Nat) (bs : List Int) : Prop where
  q : QRow V (N + 1 + 1) tv full
  qb : ∀ b off sp n c, tv = .slice (some ⟨b, off, sp⟩) n c → b < n2 ∨ n3 ≤ b
  bs : BsAt V (N + 1) bs
  f : V.heap[N]? = some F
  bw : Below N w V
  kp : ∀ q, n2 ≤ q → q < n3 → V.heap[q]? = w3.heap[q]?
  sz : n3 ≤ V.heap.size
  ord : N + 1 < n2
  up : n2 ≤ n3
theorem LSt.label {F : Obj} {N n2 n3 : Nat} {w w3 V : World} {tv : Value} {full : List Nat} {bs : List Int} (h : LSt F N n2 n3 w w3 V tv full bs) (t : Nat) (x : Int) : LSt F N n2 n3 w w3 (V.setCell ⟨N + 1, t, none⟩ (.int .i64 x)) tv full (bs.set t x) := by
  have hg := grown_set V (N + 1) t (.int .i64 x)
  have ho := h.ord
  have hs := h.sz
  have hu := h.up
  exact ⟨h.q.grown hg (fun k hk => by cases hk; omega), h.qb, h.bs.set t x, (hg.block N (by omega) (fun e => by have := Option.some.inj e; omega)).trans h.f, h.bw.trans (grown_under hg (by omega) (fun k hk => by cases hk; omega)), fun q h1 h2 => (hg.block q (by omega) (fun e => by have := Option.some.inj e; omega)).trans (h.kp q h1 h2), by simpa using hs, ho, hu⟩
theorem LSt.alloc {F : Obj} {N n2 n3 : Nat} {w w3 V : World} {tv : Value} {full : List Nat} {bs : List Int} (h : LSt F N n2 n3 w w3 V tv full bs) (o : Obj) : LSt F N n2 n3 w w3 (V.alloc o) tv full bs := by
  have hg := grown_alloc V o
  have ho := h.ord
  have hs := h.sz
  have hu := h.up
  exact ⟨h.q.grown hg (by nofun), h.qb, h.bs.grown hg (by nofun), (hg.block N (by omega) (by nofun)).trans h.f, h.bw.trans (grown_under hg (by omega) (by nofun)), fun q h1 h2 => (hg.block q (by omega) (by nofun)).trans (h.kp q h1 h2), by have := hg.size; omega, ho, hu⟩
theorem LSt.room {F : Obj} {N n2 n3 : Nat} {w w3 V : World} {full : List Nat} {bs : List Int} {b off cap n : Nat} (h : LSt F N n2 n3 w w3 V (.slice (some ⟨b, off, none⟩) n cap) full bs) (x : Nat) (m : Nat) (hb : N + 1 + 1 ≤ b) (hlt : b < V.heap.size) (o : Nat)
    (hq : QRow (V.setCell ⟨b, o, none⟩ (.int .i64 (x : Int))) (N + 1 + 1) (.slice (some ⟨b, off, none⟩) m cap) (full ++ [x])) : LSt F N n2 n3 w w3 (V.setCell ⟨b, o, none⟩ (.int .i64 (x : Int))) (.slice (some ⟨b, off, none⟩) m cap) (full ++ [x]) bs := by
  have hg := grown_set V b o (.int .i64 (x : Int))
  have ho := h.ord
  have hs := h.sz
  have hu := h.up
  have hbb := h.qb b off none n cap rfl
  exact ⟨hq, fun b' off' sp n' c e => by have := (Value.slice.inj e).1; simp at this; omega, h.bs.grown hg (fun e => by have := Option.some.inj e; omega), (hg.block N (by omega) (fun e => by have := Option.some.inj e; omega)).trans h.f, h.bw.trans (grown_under hg (by omega) (fun k hk => by cases hk; omega)), fun q h1 h2 => (hg.block q (by omega) (fun e => by have := Option.some.inj e; omega)).trans (h.kp q h1 h2), by simpa using hs, ho, hu⟩
theorem LSt.grow {F : Obj} {N n2 n3 : Nat} {w w3 V V' : World} {tv v' : Value} {full : List Nat} {bs : List Int} (h : LSt F N n2 n3 w w3 V tv full bs) (x n B : Nat) (hB : V.heap.size = B) (hn : full.length + 1 = n) (hown : V'.ownsRow B 3 1 v' n (natCells full ++ [.int .i64 (x : Int)])) (hg : V.grownBy V' none) : LSt F N n2 n3 w w3 V' v' (full ++ [x]) bs := by
  have ho := h.ord
  have hs := h.sz
  have hu := h.up
  subst hB
  rw [← map_app] at hown
  refine ⟨QRow.new hown (by simp; omega) (by omega) (by omega), fun b off sp n' c e => ?_, h.bs.grown hg (by nofun), (hg.block N (by omega) (by nofun)).trans h.f, h.bw.trans (grown_under hg (by omega) (by nofun)), fun q h1 h2 => (hg.block q (by omega) (by nofun)).trans (h.kp q h1 h2), by have := hg.size; omega, ho, hu⟩
  have := owns_ge hown b off sp n' c e; omega


structure FunD where
  c : Int
  l : Int
  d : Int
  v : Value
  code : List Ins
  deriving Inhabited
def funCells (l : List FunD) : List Value := l.flatMap fun f => [.int .i64 f.c, .int .i64 f.l, .int .i64 f.d, f.v]
/-- The functions of a program read as a list. -/
def IsFuns (w : World) (v : Value) (l : List FunD) : Prop := IsRow w v l.length (funCells l) ∧ ∀ f ∈ l, IsCode w f.v f.code
theorem IsFuns.below {w w' : World} {v : Value} {l : List FunD} (h : IsFuns w v l) (hb : Below w.heap.size w w') : IsFuns w' v l :=
  ⟨h.1.below hb, fun f hf => (h.2 f hf).below hb⟩
def opnds (op : Int) : Int := if op = 6 ∨ op = 8 ∨ op = 9 then 0 else if op = 7 ∨ op = 13 then 2 else 1
def rightI (nt : Nat) (fs : List FunD) (c l : Int) (code : List Ins) (k : Nat) (i : Ins) : Bool :=
  if knownB i.op = false then false
  else if opnds i.op < 1 ∧ i.a ≠ 0 ∨ opnds i.op < 2 ∧ i.b ≠ 0 then false
  else if i.op = 1 then inB i.a (-4503599627370496) 4503599627370496
  else if i.op = 2 then inB i.a 0 ((nt : Int) - 1)
  else if i.op = 3 ∨ i.op = 4 then inB i.a 0 (l - 1)
  else if i.op = 5 then inB i.a 0 (c - 1)
  else if i.op = 7 then inB i.a 0 ((fs.length : Int) - 1) && decide (i.b = (fs.getD i.a.toNat default).c)
  else if i.op = 10 then inB i.a 0 1000
  else if i.op = 11 ∨ i.op = 12 then inB i.a 0 999
  else if i.op = 13 then inB i.a 0 (l - 1) && (inB i.b 1 1000 && (decide ((k : Int) + i.b < code.length) && ((code.drop (k + 1)).take i.b.toNat).all (·.op == 14)))
  else if i.op = 14 then inB i.a 0 ((code.length : Int) - 1)
  else if i.op = 15 then inB i.a 1 14
  else if i.op = 16 then inB i.a 1 1000000
  else true
def rightB (nt : Nat) (fs : List FunD) (c l : Int) (code : List Ins) (k : Nat) : Bool := rightI nt fs c l code k (code.getD k default)
theorem rightB_eq (nt : Nat) (fs : List FunD) (c l : Int) (code : List Ins) (k : Nat) : rightB nt fs c l code k = rightI nt fs c l code k (code.getD k default) := rfl
theorem funCells_length (l : List FunD) : (funCells l).length = l.length * 4 := by
  induction l with
  | nil => rfl
  | cons x l ih => simp [funCells] at ih ⊢; omega
theorem funCells_at : ∀ (l : List FunD) (k : Nat), k < l.length → (funCells l).getD (k * 4) undef = .int .i64 (l.getD k default).c ∧ (funCells l).getD (k * 4 + 1) undef = .int .i64 (l.getD k default).l ∧ (funCells l).getD (k * 4 + 2) undef = .int .i64 (l.getD k default).d ∧ (funCells l).getD (k * 4 + 3) undef = (l.getD k default).v
  | [], k, h => by simp at h
  | x :: l, 0, _ => by simp [funCells]
  | x :: l, k + 1, h => by
    have ih := funCells_at l k (by simpa using h)
    have e : funCells (x :: l) = [.int .i64 x.c, .int .i64 x.l, .int .i64 x.d, x.v] ++ funCells l := rfl
    have g : ∀ j, (funCells (x :: l)).getD (j + 4) undef = (funCells l).getD j undef := fun j => by
      rw [e]; simp [List.getD]
    have e1 : (k + 1) * 4 = k * 4 + 4 := by omega
    refine ⟨?_, ?_, ?_, ?_⟩
    · rw [e1, g]; exact ih.1
    · rw [show (k + 1) * 4 + 1 = k * 4 + 1 + 4 by omega, g]; exact ih.2.1
    · rw [show (k + 1) * 4 + 2 = k * 4 + 2 + 4 by omega, g]; exact ih.2.2.1
    · rw [show (k + 1) * 4 + 3 = k * 4 + 3 + 4 by omega, g]; exact ih.2.2.2
theorem IsFuns.at' {w : World} {v : Value} {fs : List FunD} (h : IsFuns w v fs) (n : Nat) (hn : n < fs.length) :
    ∃ b off c, v = .slice (some ⟨b, off, none⟩) fs.length c ∧ fs.length ≤ c ∧ b < w.heap.size ∧ w.cell? ⟨b, off + n * 4, none⟩ = some (.int .i64 (fs.getD n default).c) ∧ w.cell? ⟨b, off + n * 4 + 1, none⟩ = some (.int .i64 (fs.getD n default).l) ∧ w.cell? ⟨b, off + n * 4 + 2, none⟩ = some (.int .i64 (fs.getD n default).d) ∧ w.cell? ⟨b, off + n * 4 + 3, none⟩ = some (fs.getD n default).v := by
  obtain ⟨⟨a, c, rfl, hlc, hcell⟩, _⟩ := h
  obtain ⟨b, off, rfl, hlt, hc⟩ := hcell (by omega)
  obtain ⟨c0, c1, c2, c3⟩ := funCells_at fs n hn
  have hlen := funCells_length fs
  refine ⟨b, off, c, rfl, hlc, hlt, ?_, ?_, ?_, ?_⟩
  · rw [hc (n * 4) (by omega), c0]
  · rw [Nat.add_assoc, hc (n * 4 + 1) (by omega), c1]
  · rw [Nat.add_assoc, hc (n * 4 + 2) (by omega), c2]
  · rw [Nat.add_assoc, hc (n * 4 + 3) (by omega), c3]
theorem beq_dec (a b : Int) : (a == b) = decide (a = b) := by by_cases h : a = b <;> simp [h]
def RightOk (b : Bool) (w : World) (e : Ending) (w' : World) : Prop := e = .returned (.bool b) ∧ Below w.heap.size w w'
theorem getD_mem {α : Type} (d : α) (l : List α) (k : Nat) (h : k < l.length) : l.getD k d ∈ l := by
  have : l.getD k d = l[k] := by simp [List.getD, h]
  rw [this]; exact List.getElem_mem h

def visB (b : UInt8) : Bool := b == 10 || (decide (32 ≤ b.toNat) && decide (b.toNat ≤ 126))
def quotedB (s : ByteArray) : Bool := decide (s.size ≤ 16384) && s.data.toList.all visB
def notQ (s : ByteArray) : Bool := !quotedB s
def strCells (l : List ByteArray) : List Value := l.map Value.string
theorem strCells_length (l : List ByteArray) : (strCells l).length = l.length := by simp [strCells]
theorem strCells_at (l : List ByteArray) (k : Nat) (h : k < l.length) : (strCells l).getD k undef = .string (l.getD k default) := by simp [strCells, List.getD, h]
def IsTexts (w : World) (v : Value) (l : List ByteArray) : Prop := IsRow w v l.length (strCells l)
structure ProgD where
  funs : List FunD
  texts : List ByteArray
  main : Int
def IsProg (w : World) (fv tv : Value) (p : ProgD) : Prop := IsFuns w fv p.funs ∧ IsTexts w tv p.texts
theorem IsProg.below {w w' : World} {fv tv : Value} {p : ProgD} (h : IsProg w fv tv p) (hb : Below w.heap.size w w') : IsProg w' fv tv p := ⟨h.1.below hb, IsRow.below h.2 hb⟩
def headB (f : FunD) : Bool := inB f.c 0 1000 && (inB f.l 1 4096 && (inB f.d 0 4096 && inB (f.code.length : Int) 1 16384))
def rightsB (p : ProgD) (f : FunD) : Bool := (List.range f.code.length).all fun k => rightB p.texts.length p.funs f.c f.l f.code k
def mainB (p : ProgD) : Bool := inB p.main 0 ((p.funs.length : Int) - 1) && decide ((p.funs.getD p.main.toNat default).c = 0)
def validB (p : ProgD) : Bool := inB (p.funs.length : Int) 1 4096 && (decide (p.texts.length ≤ 1000) && (!p.texts.any notQ && (p.funs.all headB && (p.funs.all (rightsB p) && mainB p))))
def ValidOk (p : ProgD) (w : World) (e : Ending) (w' : World) : Prop := e = .returned (.bool (validB p)) ∧ Below w.heap.size w w'
def badHead (f : FunD) : Bool := !headB f
def badRights (p : ProgD) (f : FunD) : Bool := !rightsB p f
theorem all_of {α : Type} (l : List α) (p : α → Bool) : l.all p = !l.any (fun x => !p x) := by
  induction l with
  | nil => rfl
  | cons x l ih => simp [ih]
theorem valid_c0 (p : ProgD) (h : inB (p.funs.length : Int) 1 4096 = false) : validB p = false := by unfold validB; rw [h]; rfl
theorem valid_c1 (p : ProgD) (h : ¬ p.texts.length ≤ 1000) : validB p = false := by unfold validB; simp [h]
theorem valid_c2 (p : ProgD) (h : p.texts.any notQ = true) : validB p = false := by unfold validB; simp [h]
theorem valid_c3 (p : ProgD) (h : p.funs.any badHead = true) : validB p = false := by unfold validB; rw [all_of p.funs headB]; rw [show p.funs.any (fun x => !headB x) = true from h]; simp
theorem valid_c4 (p : ProgD) (h : p.funs.any (badRights p) = true) : validB p = false := by unfold validB; rw [all_of p.funs (rightsB p)]; rw [show p.funs.any (fun x => !rightsB p x) = true from h]; simp
theorem valid_ok (p : ProgD) (h0 : inB (p.funs.length : Int) 1 4096 = true) (h1 : p.texts.length ≤ 1000) (h2 : p.texts.any notQ = false) (h3 : p.funs.any badHead = false) (h4 : p.funs.any (badRights p) = false) : validB p = mainB p := by
  unfold validB; rw [all_of p.funs headB, all_of p.funs (rightsB p), show p.funs.any (fun x => !headB x) = false from h3, show p.funs.any (fun x => !rightsB p x) = false from h4, h0, h2]; simp [h1]
def showB (c : Int) : Bool := decide (32 ≤ c) && decide (c ≤ 126)
theorem ub (c : UInt8) : 0 ≤ (c.toNat : Int) ∧ (c.toNat : Int) ≤ 255 := ⟨by omega, by have := c.toNat_lt; omega⟩
theorem u8_of (b : UInt8) (n : Nat) (hn : n < 256) : ((b.toNat : Int) == (n : Int)) = (b == UInt8.ofNat n) := by
  by_cases h : b = UInt8.ofNat n
  · subst h
    have : (UInt8.ofNat n).toNat = n := by simp [Nat.mod_eq_of_lt hn]
    rw [this]; simp
  · have h2 : b.toNat ≠ n := fun e => h (by rw [← e]; simp)
    have h3 : ¬ ((b.toNat : Int) = (n : Int)) := by omega
    rw [beq_eq_false_iff_ne.2 h3, beq_eq_false_iff_ne.2 h]
theorem take_next (s : ByteArray) (k : Nat) (h : k < s.size) : s.data.toList.take (k + 1) = s.data.toList.take k ++ [s[k]] := by
  rw [List.take_succ_eq_append_getElem (by simpa using h)]; rfl
end Go.Proofs.YtidolpcbbbakmaaGreat
