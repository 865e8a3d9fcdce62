/- Part of the proof; its texts: Dp2 Cr1 Dp3 Dp4 Aw1 Aw2 Aw3 Cr2. -/
import Derived.Test.YtbcfdebdikgijaaGreatDoorS1
import Derived.Deep.OwnRows
import Derived.ArgAppend
import Derived.Deep.DeepCutAuto
import Derived.Deep.RegionHeld3
import Derived.Laws.AppendOwnNone
import Derived.Lib.SliceRun
set_option maxRecDepth 100000
set_option linter.unusedVariables false
set_option linter.unusedSimpArgs false
set_option maxHeartbeats 4000000
namespace Go.Proofs.YtbcfdebdikgijaaGreatDoor
open Go Go.RowKit
theorem Z6 {w : World} {b : Nat} {o : Obj} (h : w.heap[b]? = some o) : b < w.heap.size := (Array.getElem?_eq_some_iff.1 h).1
theorem ZL {w : World} {b i : Nat} {cs : Array Value} {T : TypeId} {fr : Nat × Nat} (hb : w.heap[b]? = some (.cells cs T fr)) (v : Value) : (w.setCell ⟨b, i, none⟩ v).heap[b]? = some (.cells (cs.setIfInBounds i v) T fr) := by
 simp [World.setCell, Array.getElem?_modify, hb]
theorem Yf {w w' : World} (h : Below w.heap.size w w') : w.grownBy w' none := ⟨h.os, h.tape, h.output, h.size, fun k hk _ => h.block k hk⟩
theorem Z8 (w : World) (o : Obj) : w.grownBy (w.alloc o) none := Yf ((Below.refl _ _).alloc (Nat.le_refl _) _)
theorem Zv (w : World) (b o : Nat) (u : Value) : w.grownBy (w.setCell ⟨b, o, none⟩ u) (some b) := ⟨rfl, rfl, rfl, by simp, fun k _ hk => Below.heap_setCell _ _ _ _ (fun e => hk (by simp [e]))⟩
theorem ZX {w w' : World} {r : Option Nat} {B : Nat} (h : w.grownBy w' r) (hB : B <= w.heap.size) (hr : ∀ k, r = some k -> B <= k) : Below B w w' :=
 ⟨h.os, h.tape, h.output, h.size, fun k hk => h.block k (by omega) (fun e => by have := hr k e.symm; omega)⟩
theorem YJ (z : Int) (h0 : -9223372036854775808 <= z) (h1 : z <= 9223372036854775807) : IntKind.i64.wrap z = z := by rw [IntKind.wrap_i64]; omega
def QW (V : World) (b : Nat) (bs : List Int) : Prop := V.heap[b]? = some (.cells (ints bs).toArray 3 (0, 0))
theorem QW.cell {V : World} {b : Nat} {bs : List Int} (h : QW V b bs) (i : Nat) (hi : i < bs.length) : V.cell? ⟨b, i, none⟩ = some (.int .i64 (bs.getD i (-1))) /\ V.frozen? ⟨b, i, none⟩ = false := by
 refine ⟨?_, Lib.frozen_of_heap h i⟩
 simp only [World.cell?, show V.heap[b]? = _ from h]
 simp [ints, List.getD, hi]
theorem QW.set {V : World} {b : Nat} {bs : List Int} (h : QW V b bs) (i : Nat) (x : Int) : QW (V.setCell ⟨b, i, none⟩ (.int .i64 x)) b (bs.set i x) := by
 unfold QW
 rw [ZL h]
 congr 2
 simp [ints, List.map_set]
theorem QW.grown {V V' : World} {b : Nat} {bs : List Int} {r : Option Nat} (h : QW V b bs) (hg : V.grownBy V' r) (hr : r ≠ some b) : QW V' b bs := (hg.block b (Z6 h) (fun e => hr e.symm)).trans h
def isNeg : Value -> Bool
 | .int _ n => n == -1
 | _ => false
def GN (V : World) (b : Nat) : Nat :=
 match V.heap[b]? with
 | some (.cells cur _ _) => cur.toList.countP isNeg
 | _ => 0
theorem QW.GN {V : World} {b : Nat} {bs : List Int} (h : QW V b bs) : GN V b = GR bs := by
 unfold Proofs.YtbcfdebdikgijaaGreatDoor.GN
 rw [show V.heap[b]? = _ from h]
 simp only [ints, GR, List.count, List.countP_map]
 rfl
def lenOf : Value -> Nat
 | .slice _ n _ => n
 | _ => 0
def WL (l : List Nat) : List Value := l.map fun (t : Nat) => Value.int .i64 (t : Int)
def Qg (V : World) (lo : Nat) (tv : Value) (todo : List Nat) : Prop :=
 ∃ b off cap cur, tv = .slice (some ⟨b, off, none⟩) todo.length cap /\ lo <= b /\ V.heap[b]? = some (.cells cur 3 (0, 0)) /\ todo.length <= cap /\ off + cap <= cur.size /\ ∀ j, j < todo.length -> cur[off + j]? = some (.int .i64 ((todo.getD j 0 : Nat) : Int))
theorem Qg.grown {V V' : World} {lo : Nat} {tv : Value} {todo : List Nat} {r : Option Nat} (h : Qg V lo tv todo) (hg : V.grownBy V' r) (hr : ∀ k, r = some k -> k < lo) : Qg V' lo tv todo := by
 obtain ⟨b, off, cap, cur, h1, h2, h3, h4⟩ := h
 exact ⟨b, off, cap, cur, h1, h2, (hg.block b (Z6 h3) (fun e => by have := hr b e.symm; omega)).trans h3, h4⟩
theorem qX (V : World) (lo n : Nat) (hn : V.heap.size = n) (hlo : lo <= n) : Qg (V.alloc (.cells #[.int .i64 0] 3)) lo (.slice (some ⟨n, 0, none⟩) 1 1) [0] := by
 subst hn
 refine ⟨_, 0, 1, _, rfl, hlo, ZV V _, Nat.le_refl _, Nat.le_refl _, fun j hj => ?_⟩
 obtain rfl : j = 0 := by simpa using hj
 rfl
theorem Qg.first {V : World} {lo : Nat} {tv : Value} {c : Nat} {rest : List Nat} (h : Qg V lo tv (c :: rest)) : ∃ b off cap, tv = .slice (some ⟨b, off, none⟩) (rest.length + 1) cap /\ lo <= b /\ b < V.heap.size /\ rest.length + 1 <= cap /\ V.cell? ⟨b, off, none⟩ = some (.int .i64 (c : Int)) /\
 Qg V lo (.slice (some ⟨b, if cap = 1 then off else off + 1, none⟩) rest.length (cap - 1)) rest := by
 obtain ⟨b, off, cap, cur, h1, h2, h3, h4, h5, h6⟩ := h
 simp only [List.length_cons] at h1 h4 h6
 refine ⟨b, off, cap, h1, h2, Z6 h3, h4, ?_, ?_⟩
 ·have := h6 0 (by omega)
  simp only [World.cell?, h3]; simpa using this
 ·refine ⟨b, _, cap - 1, cur, rfl, h2, h3, by omega, by split <;> omega, fun j hj => ?_⟩
  rw [Z7 (by omega), show off + 1 + j = off + (j + 1) by omega, h6 (j + 1) (by omega)]; simp [List.getD]
theorem Qg.form {V : World} {lo : Nat} {tv : Value} {todo : List Nat} (h : Qg V lo tv todo) : ∃ b off cap, tv = .slice (some ⟨b, off, none⟩) todo.length cap /\ lo <= b /\ b < V.heap.size /\ todo.length <= cap /\
 (∀ j u, (WL todo)[j]? = some u -> V.cell? ⟨b, off + j, none⟩ = some u) /\
 (todo.length + 1 <= cap -> (V.cell? ⟨b, off + todo.length, none⟩).isSome = true /\ V.frozen? ⟨b, off + todo.length, none⟩ = false) /\
 (todo.length + 1 <= cap -> ∀ x : Nat, Qg (V.setCell ⟨b, off + todo.length, none⟩ (.int .i64 (x : Int))) lo (.slice (some ⟨b, off, none⟩) (todo.length + 1) cap) (todo ++ [x])) := by
 obtain ⟨b, off, cap, cur, h1, h2, h3, h4, h5, h6⟩ := h
 refine ⟨b, off, cap, h1, h2, Z6 h3, h4, fun j u hj => ?_, fun hr => ⟨?_, Lib.frozen_of_heap h3 _⟩, fun hr x => ?_⟩
 ·unfold WL at hj
  rw [List.getElem?_map] at hj; obtain ⟨t, ht, rfl⟩ := Option.map_eq_some_iff.1 hj; have hl := (List.getElem?_eq_some_iff.1 ht).1; simp only [World.cell?, h3]; rw [h6 j hl]; simp [List.getD, ht]
 ·simp only [World.cell?, h3]
  rw [Array.getElem?_eq_getElem (by omega)]; rfl
 ·refine ⟨b, off, cap, _, by simp, h2, ZL h3 _, by simp; omega, by simp; omega, fun j hj => ?_⟩
  rw [Array.getElem?_setIfInBounds]; simp only [List.length_append, List.length_singleton] at hj; by_cases e : j = todo.length
  ·subst e
   rw [ZY rfl, ZY (by omega)]; simp [List.getD]
  ·rw [Z7 (by omega), h6 j (by omega)]
   simp only [List.getD_eq_getElem?_getD]; rw [List.getElem?_append_left (by omega)]
theorem Qg.new {V : World} {lo B n : Nat} {v : Value} {todo : List Nat} (h : V.ownsRow B 3 1 v n (WL todo)) (hn : todo.length = n) (h0 : 0 < n) (hlo : lo <= B) : Qg V lo v todo := by
 subst hn
 obtain ⟨h1, h2⟩ := h
 rcases h2 with ⟨_, e⟩ | ⟨g, cap, cur, rfl, hb, hh, hn, _, hs, ht⟩
 ·omega
 ·refine ⟨g, 0, cap, cur, rfl, by omega, hh, hn, by omega, fun j hj => ?_⟩
  have e1 : cur.toList[j]? = (WL todo)[j]? := by
   rw [<- ht, List.getElem?_take, ZY (by omega)]
  unfold WL at e1; rw [Nat.zero_add, <- Array.getElem?_toList, e1, List.getElem?_map, List.getElem?_eq_getElem hj]; simp [List.getD, hj]
theorem Bz (todo : List Nat) (x : Nat) : WL (todo ++ [x]) = WL todo ++ [.int .i64 (x : Int)] := by simp [WL]
theorem qW (n : Nat) : (madeCells #[Value.int .i64 0] n) = (ints (List.replicate n 0)).toArray := by
 apply Array.ext'
 rw [toList_madeCells_one]; simp [ints]
theorem zX : (Tryz.prog.info? 3).map (fun i => (i.zero, i.size, i.bytes)) = some (some (.int .i64 0), 1, 8) := Pg
theorem Bw {w : World} {v : Value} {l : List Ins} (h : VE w v l) (n : Nat) (hn : n < l.length) :
 ∃ b off c, v = .slice (some ⟨b, off, none⟩) l.length c /\ l.length <= c /\ b < w.heap.size /\ w.cell? ⟨b, off + n * 3, none⟩ = some (.int .i64 (l.getD n default).op) /\ w.cell? ⟨b, off + n * 3 + 1, none⟩ = some (.int .i64 (l.getD n default).a) /\ w.cell? ⟨b, off + n * 3 + 2, none⟩ = some (.int .i64 (l.getD n default).b) := by
 obtain ⟨a, c, rfl, hlc, hcell⟩ := h
 obtain ⟨b, off, rfl, hlt, hc⟩ := hcell (by omega)
 obtain ⟨c0, c1, c2⟩ := T9 l n hn
 have hlen := Vf l
 refine ⟨b, off, c, rfl, hlc, hlt, ?_, ?_, ?_⟩
 ·rw [hc (n * 3) (by omega), c0]
 ·rw [Nat.add_assoc, hc (n * 3 + 1) (by omega), c1]
 ·rw [Nat.add_assoc, hc (n * 3 + 2) (by omega), c2]
theorem WQ {w : World} {q : Nat} {x y z u : Value} {t : TypeId} (h : w.heap[q]? = some (.cells #[x, y, z, u] t (0, 0))) : w.cell? ⟨q, 0, none⟩ = some x /\ w.cell? ⟨q, 1, none⟩ = some y /\ w.cell? ⟨q, 2, none⟩ = some z /\ w.cell? ⟨q, 3, none⟩ = some u := by
 simp [World.cell?, h]
theorem xC.cell {B : Nat} {w : World} {v : Value} {l : List Int} (h : xC B w v l.length (ints l)) (hl : 0 < l.length) : ∃ b off c, v = .slice (some ⟨b, off, none⟩) l.length c /\ B <= b /\ b < w.heap.size /\ ∀ j, j < l.length -> w.cell? ⟨b, off + j, none⟩ = some (.int .i64 (l.getD j 0)) := by
 obtain ⟨⟨a, c, rfl, hlc, hc⟩, hw⟩ := h
 obtain ⟨b, off, rfl, hlt, hx⟩ := hc hl
 exact ⟨b, off, c, rfl, hw _ _ _ _ _ rfl, hlt, fun j hj => by rw [hx j (by rw [Ng]; exact hj), ints_at l j hj]⟩
structure Bv (F : Obj) (N n2 n3 : Nat) (w w3 V : World) (tv : Value) (full : List Nat) (bs : List Int) : Prop where
 q : Qg V (N + 1 + 1) tv full
 qb : ∀ b off sp n c, tv = .slice (some ⟨b, off, sp⟩) n c -> b < n2 \/ n3 <= b
 bs : QW V (N + 1) bs
 f : V.heap[N]? = some F
 bw : Below N w V
 kp : ∀ q, n2 <= q -> q < n3 -> V.heap[q]? = w3.heap[q]?
 sz : n3 <= V.heap.size
 ord : N + 1 < n2
 up : n2 <= n3
theorem Bv.label {F : Obj} {N n2 n3 : Nat} {w w3 V : World} {tv : Value} {full : List Nat} {bs : List Int} (h : Bv F N n2 n3 w w3 V tv full bs) (t : Nat) (x : Int) : Bv F N n2 n3 w w3 (V.setCell ⟨N + 1, t, none⟩ (.int .i64 x)) tv full (bs.set t x) := by
 have hg := Zv V (N + 1) t (.int .i64 x)
 have ho := h.ord
 have hs := h.sz
 have hu := h.up
 exact ⟨h.q.grown hg (fun k hk => by cases hk; omega), h.qb, h.bs.set t x, (hg.block N (by omega) (fun e => by have := Option.some.inj e; omega)).trans h.f, h.bw.trans (ZX hg (by omega) (fun k hk => by cases hk; omega)), fun q h1 h2 => (hg.block q (by omega) (fun e => by have := Option.some.inj e; omega)).trans (h.kp q h1 h2), by simpa using hs, ho, hu⟩
theorem Bv.alloc {F : Obj} {N n2 n3 : Nat} {w w3 V : World} {tv : Value} {full : List Nat} {bs : List Int} (h : Bv F N n2 n3 w w3 V tv full bs) (o : Obj) : Bv F N n2 n3 w w3 (V.alloc o) tv full bs := by
 have hg := Z8 V o
 have ho := h.ord
 have hs := h.sz
 have hu := h.up
 exact ⟨h.q.grown hg (by nofun), h.qb, h.bs.grown hg (by nofun), (hg.block N (by omega) (by nofun)).trans h.f, h.bw.trans (ZX hg (by omega) (by nofun)), fun q h1 h2 => (hg.block q (by omega) (by nofun)).trans (h.kp q h1 h2), by have := hg.size; omega, ho, hu⟩
theorem Bv.room {F : Obj} {N n2 n3 : Nat} {w w3 V : World} {full : List Nat} {bs : List Int} {b off cap n : Nat} (h : Bv F N n2 n3 w w3 V (.slice (some ⟨b, off, none⟩) n cap) full bs) (x : Nat) (m : Nat) (hb : N + 1 + 1 <= b) (hlt : b < V.heap.size) (o : Nat)
 (hq : Qg (V.setCell ⟨b, o, none⟩ (.int .i64 (x : Int))) (N + 1 + 1) (.slice (some ⟨b, off, none⟩) m cap) (full ++ [x])) : Bv F N n2 n3 w w3 (V.setCell ⟨b, o, none⟩ (.int .i64 (x : Int))) (.slice (some ⟨b, off, none⟩) m cap) (full ++ [x]) bs := by
 have hg := Zv V b o (.int .i64 (x : Int))
 have ho := h.ord
 have hs := h.sz
 have hu := h.up
 have hbb := h.qb b off none n cap rfl
 exact ⟨hq, fun b' off' sp n' c e => by have := (Value.slice.inj e).1; simp at this; omega, h.bs.grown hg (fun e => by have := Option.some.inj e; omega), (hg.block N (by omega) (fun e => by have := Option.some.inj e; omega)).trans h.f, h.bw.trans (ZX hg (by omega) (fun k hk => by cases hk; omega)), fun q h1 h2 => (hg.block q (by omega) (fun e => by have := Option.some.inj e; omega)).trans (h.kp q h1 h2), by simpa using hs, ho, hu⟩
theorem Bv.grow {F : Obj} {N n2 n3 : Nat} {w w3 V V' : World} {tv v' : Value} {full : List Nat} {bs : List Int} (h : Bv F N n2 n3 w w3 V tv full bs) (x n B : Nat) (hB : V.heap.size = B) (hn : full.length + 1 = n) (hown : V'.ownsRow B 3 1 v' n (WL full ++ [.int .i64 (x : Int)])) (hg : V.grownBy V' none) : Bv F N n2 n3 w w3 V' v' (full ++ [x]) bs := by
 have ho := h.ord
 have hs := h.sz
 have hu := h.up
 subst hB
 rw [<- Bz] at hown
 refine ⟨Qg.new hown (by simp; omega) (by omega) (by omega), fun b off sp n' c e => ?_, h.bs.grown hg (by nofun), (hg.block N (by omega) (by nofun)).trans h.f, h.bw.trans (ZX hg (by omega) (by nofun)), fun q h1 h2 => (hg.block q (by omega) (by nofun)).trans (h.kp q h1 h2), by have := hg.size; omega, ho, hu⟩
 have := BH hown b off sp n' c e; omega
structure WU where
 c : Int
 l : Int
 d : Int
 v : Value
 code : List Ins
 deriving Inhabited
def XE (l : List WU) : List Value := l.flatMap fun f => [.int .i64 f.c, .int .i64 f.l, .int .i64 f.d, f.v]
def Tc (w : World) (v : Value) (l : List WU) : Prop := Xe w v l.length (XE l) /\ ∀ f ∈ l, VE w f.v f.code
theorem Tc.below {w w' : World} {v : Value} {l : List WU} (h : Tc w v l) (hb : Below w.heap.size w w') : Tc w' v l :=
 ⟨h.1.below hb, fun f hf => (h.2 f hf).below hb⟩
def Y8 (op : Int) : Int := if op = 6 \/ op = 8 \/ op = 9 then 0 else if op = 7 \/ op = 13 then 2 else 1
def Zo (nt : Nat) (fs : List WU) (c l : Int) (code : List Ins) (k : Nat) (i : Ins) : Bool :=
 if Zb i.op = false then false
 else if Y8 i.op < 1 /\ i.a ≠ 0 \/ Y8 i.op < 2 /\ i.b ≠ 0 then false
 else if i.op = 1 then Y7 i.a (-4503599627370496) 4503599627370496
 else if i.op = 2 then Y7 i.a 0 ((nt : Int) - 1)
 else if i.op = 3 \/ i.op = 4 then Y7 i.a 0 (l - 1)
 else if i.op = 5 then Y7 i.a 0 (c - 1)
 else if i.op = 7 then Y7 i.a 0 ((fs.length : Int) - 1) && decide (i.b = (fs.getD i.a.toNat default).c)
 else if i.op = 10 then Y7 i.a 0 1000
 else if i.op = 11 \/ i.op = 12 then Y7 i.a 0 999
 else if i.op = 13 then Y7 i.a 0 (l - 1) && (Y7 i.b 1 1000 && (decide ((k : Int) + i.b < code.length) && ((code.drop (k + 1)).take i.b.toNat).all (·.op == 14)))
 else if i.op = 14 then Y7 i.a 0 ((code.length : Int) - 1)
 else if i.op = 15 then Y7 i.a 1 14
 else if i.op = 16 then Y7 i.a 1 1000000
 else true
def Uw (nt : Nat) (fs : List WU) (c l : Int) (code : List Ins) (k : Nat) : Bool := Zo nt fs c l code k (code.getD k default)
theorem NQ (nt : Nat) (fs : List WU) (c l : Int) (code : List Ins) (k : Nat) : Uw nt fs c l code k = Zo nt fs c l code k (code.getD k default) := rfl
theorem Ra (l : List WU) : (XE l).length = l.length * 4 := by
 induction l with
 | nil => rfl
 | cons x l ih => simp [XE] at ih ⊢; omega
theorem QV : ∀ (l : List WU) (k : Nat), k < l.length -> (XE l).getD (k * 4) undef = .int .i64 (l.getD k default).c /\ (XE l).getD (k * 4 + 1) undef = .int .i64 (l.getD k default).l /\ (XE l).getD (k * 4 + 2) undef = .int .i64 (l.getD k default).d /\ (XE l).getD (k * 4 + 3) undef = (l.getD k default).v
 | [], k, h => by simp at h
 | x :: l, 0, _ => by simp [XE]
 | x :: l, k + 1, h => by
   have ih := QV l k (by simpa using h); have e : XE (x :: l) = [.int .i64 x.c, .int .i64 x.l, .int .i64 x.d, x.v] ++ XE l := rfl; have g : ∀ j, (XE (x :: l)).getD (j + 4) undef = (XE l).getD j undef := fun j => by
    rw [e]; simp [List.getD]
   have e1 : (k + 1) * 4 = k * 4 + 4 := by omega
   refine ⟨?_, ?_, ?_, ?_⟩
   ·rw [e1, g]; exact ih.1
   ·rw [show (k + 1) * 4 + 1 = k * 4 + 1 + 4 by omega, g]; exact ih.2.1
   ·rw [show (k + 1) * 4 + 2 = k * 4 + 2 + 4 by omega, g]; exact ih.2.2.1
   ·rw [show (k + 1) * 4 + 3 = k * 4 + 3 + 4 by omega, g]; exact ih.2.2.2
theorem Tc.at' {w : World} {v : Value} {fs : List WU} (h : Tc w v fs) (n : Nat) (hn : n < fs.length) :
 ∃ b off c, v = .slice (some ⟨b, off, none⟩) fs.length c /\ fs.length <= c /\ b < w.heap.size /\ w.cell? ⟨b, off + n * 4, none⟩ = some (.int .i64 (fs.getD n default).c) /\ w.cell? ⟨b, off + n * 4 + 1, none⟩ = some (.int .i64 (fs.getD n default).l) /\ w.cell? ⟨b, off + n * 4 + 2, none⟩ = some (.int .i64 (fs.getD n default).d) /\ w.cell? ⟨b, off + n * 4 + 3, none⟩ = some (fs.getD n default).v := by
 obtain ⟨⟨a, c, rfl, hlc, hcell⟩, _⟩ := h
 obtain ⟨b, off, rfl, hlt, hc⟩ := hcell (by omega)
 obtain ⟨c0, c1, c2, c3⟩ := QV fs n hn
 have hlen := Ra fs
 refine ⟨b, off, c, rfl, hlc, hlt, ?_, ?_, ?_, ?_⟩
 ·rw [hc (n * 4) (by omega), c0]
 ·rw [Nat.add_assoc, hc (n * 4 + 1) (by omega), c1]
 ·rw [Nat.add_assoc, hc (n * 4 + 2) (by omega), c2]
 ·rw [Nat.add_assoc, hc (n * 4 + 3) (by omega), c3]
theorem Bu (a b : Int) : (a == b) = decide (a = b) := by by_cases h : a = b <;> simp [h]
def qV (b : Bool) (w : World) (e : Ending) (w' : World) : Prop := e = .returned (.bool b) /\ Below w.heap.size w w'
theorem Zr {α : Type} (d : α) (l : List α) (k : Nat) (h : k < l.length) : l.getD k d ∈ l := by
 have : l.getD k d = l[k] := by simp [List.getD, h]
 rw [this]; exact List.getElem_mem h
def Uv (b : UInt8) : Bool := b == 10 || (decide (32 <= b.toNat) && decide (b.toNat <= 126))
def VJ (s : ByteArray) : Bool := decide (s.size <= 16384) && s.data.toList.all Uv
def Vm (s : ByteArray) : Bool := !VJ s
def strCells (l : List ByteArray) : List Value := l.map Value.string
theorem strCells_length (l : List ByteArray) : (strCells l).length = l.length := by simp [strCells]
theorem GL (l : List ByteArray) (k : Nat) (h : k < l.length) : (strCells l).getD k undef = .string (l.getD k default) := by simp [strCells, List.getD, h]
def Xv (w : World) (v : Value) (l : List ByteArray) : Prop := Xe w v l.length (strCells l)
structure Zz where
 Zu : List WU
 texts : List ByteArray
 main : Int
def Rp (w : World) (fv tv : Value) (p : Zz) : Prop := Tc w fv p.Zu /\ Xv w tv p.texts
theorem Rp.below {w w' : World} {fv tv : Value} {p : Zz} (h : Rp w fv tv p) (hb : Below w.heap.size w w') : Rp w' fv tv p := ⟨h.1.below hb, Xe.below h.2 hb⟩
def Ta (f : WU) : Bool := Y7 f.c 0 1000 && (Y7 f.l 1 4096 && (Y7 f.d 0 4096 && Y7 (f.code.length : Int) 1 16384))
def Vs (p : Zz) (f : WU) : Bool := (List.range f.code.length).all fun k => Uw p.texts.length p.Zu f.c f.l f.code k
def RX (p : Zz) : Bool := Y7 p.main 0 ((p.Zu.length : Int) - 1) && decide ((p.Zu.getD p.main.toNat default).c = 0)
def Wu (p : Zz) : Bool := Y7 (p.Zu.length : Int) 1 4096 && (decide (p.texts.length <= 1000) && (!p.texts.any Vm && (p.Zu.all Ta && (p.Zu.all (Vs p) && RX p))))
def qU (p : Zz) (w : World) (e : Ending) (w' : World) : Prop := e = .returned (.bool (Wu p)) /\ Below w.heap.size w w'
def Vr (f : WU) : Bool := !Ta f
def Xb (p : Zz) (f : WU) : Bool := !Vs p f
theorem LZ {α : Type} (l : List α) (p : α -> Bool) : l.all p = !l.any (fun x => !p x) := by
 induction l with
 | nil => rfl
 | cons x l ih => simp [ih]
theorem wY (p : Zz) (h : Y7 (p.Zu.length : Int) 1 4096 = false) : Wu p = false := by unfold Wu; rw [h]; rfl
theorem wX (p : Zz) (h : ¬ p.texts.length <= 1000) : Wu p = false := by unfold Wu; simp [h]
theorem wW (p : Zz) (h : p.texts.any Vm = true) : Wu p = false := by unfold Wu; simp [h]
theorem O1 (p : Zz) (h : p.Zu.any Vr = true) : Wu p = false := by unfold Wu; rw [LZ p.Zu Ta]; rw [show p.Zu.any (fun x => !Ta x) = true from h]; simp
theorem wV (p : Zz) (h : p.Zu.any (Xb p) = true) : Wu p = false := by unfold Wu; rw [LZ p.Zu (Vs p)]; rw [show p.Zu.any (fun x => !Vs p x) = true from h]; simp
theorem wU (p : Zz) (h0 : Y7 (p.Zu.length : Int) 1 4096 = true) (h1 : p.texts.length <= 1000) (h2 : p.texts.any Vm = false) (h3 : p.Zu.any Vr = false) (h4 : p.Zu.any (Xb p) = false) : Wu p = RX p := by
 unfold Wu; rw [LZ p.Zu Ta, LZ p.Zu (Vs p), show p.Zu.any (fun x => !Ta x) = false from h3, show p.Zu.any (fun x => !Vs p x) = false from h4, h0, h2]; simp [h1]
def RV (c : Int) : Bool := decide (32 <= c) && decide (c <= 126)
theorem ub (c : UInt8) : 0 <= (c.toNat : Int) /\ (c.toNat : Int) <= 255 := ⟨by omega, by have := c.toNat_lt; omega⟩
theorem GK (b : UInt8) (n : Nat) (hn : n < 256) : ((b.toNat : Int) == (n : Int)) = (b == UInt8.ofNat n) := by
 by_cases h : b = UInt8.ofNat n
 ·subst h
  have : (UInt8.ofNat n).toNat = n := by simp [Nat.mod_eq_of_lt hn]
  rw [this]; simp
 ·have h2 : b.toNat ≠ n := fun e => h (by rw [<- e]; simp)
  have h3 : ¬ ((b.toNat : Int) = (n : Int)) := by omega
  rw [Zt h3, Zt h]
theorem NP (s : ByteArray) (k : Nat) (h : k < s.size) : s.data.toList.take (k + 1) = s.data.toList.take k ++ [s[k]] := by
 rw [List.take_succ_eq_append_getElem (by simpa using h)]; rfl
theorem VD {a b c : World} {r : Option Nat} (h : a.grownBy b r) (k : b.grownBy c r) : a.grownBy c r :=
 ⟨k.os.trans h.os, k.tape.trans h.tape, k.output.trans h.output, Nat.le_trans h.size k.size, fun q hq hr => (k.block q (Nat.lt_of_lt_of_le hq h.size) hr).trans (h.block q hq hr)⟩
def mP (code : List Ins) (w : World) (e : Ending) (w' : World) : Prop := ∃ r er, e = .returned (.tuple #[.int .i64 r, .int .i64 er]) /\ TA code r er /\ Below w.heap.size w w'
theorem DZ (code : List Ins) (c : Nat) (d : Int) (h : qZ code c ≠ 0 \/ mV code c ≠ 0 \/ d < pops code c) : ¬ Pb code c d := fun ⟨h1, h2, h3⟩ => by
 rcases h with h | h | h
 ·exact h h1
 ·exact h h2
 ·omega
theorem NM (v : Value) (code : List Ins) (w : World) (h : VE w v code) (hl : code.length <= 20000) :
 Calls Tryz.prog 15 #[v] w (mP code w) := by
 have Hc := Z9 h
 obtain ⟨a, c, rfl, hlc, _⟩ := h
 by_cases h0 : code.length = 0
 ·have Jh : Hid (TA code 0 24) := by show TA _ _ _; unfold TA; rw [ZY h0]; exact ⟨rfl, rfl⟩
  have h0' : (code.length : Int) = 0 := by omega
  go_in; go_wp2; go_ret2; exact ⟨_, _, rfl, Jh.out, Below.refl _ _⟩
 ·have hn0 : 0 < code.length := by omega
  have h0b : ((code.length : Int) == 0) = false := Zt (by omega); have hmk := run_make_row' (P := Tryz.prog) 101 3 (.int .i64 0) 8 Tryz.underlying101 zX rfl .i64 .i64 code.length (by omega) (by omega); obtain ⟨i0, hi, hz0, hz1, hz2⟩ := info_parts Pg; go_in; have hb0 : Below w.heap.size w ((w.alloc (.cells #[.int .i64 0, .int .i64 0, .int .i64 0, .slice a code.length c] 53)).alloc (.cells (madeCells #[.int .i64 0] code.length) 3)) := ((Below.refl _ _).alloc (Nat.le_refl _) _).alloc (by simp) _; have gF : ((w.alloc (.cells #[.int .i64 0, .int .i64 0, .int .i64 0, .slice a code.length c] 53)).alloc (.cells (madeCells #[.int .i64 0] code.length) 3)).heap[w.heap.size]? = some (.cells #[.int .i64 0, .int .i64 0, .int .i64 0, .slice a code.length c] 53 (0, 0)) := (Below.heap_alloc _ _ _ (by simp)).trans (ZV w _); have gB : QW ((w.alloc (.cells #[.int .i64 0, .int .i64 0, .int .i64 0, .slice a code.length c] 53)).alloc (.cells (madeCells #[.int .i64 0] code.length) 3)) (w.heap.size + 1) (List.replicate code.length 0) := by
   unfold QW; rw [<- qW]; exact (congrArg _ (by simp)).trans (ZV (w.alloc _) _)
  go_wp2_with fail; generalize ((w.alloc (.cells #[.int .i64 0, .int .i64 0, .int .i64 0, .slice a code.length c] 53)).alloc (.cells (madeCells #[.int .i64 0] code.length) 3)) = W at *; have hltW := Z6 gB; clear hmk; go_loopw [28] (fun i wr => ∃ j : Nat, i = .int .i64 j /\ j <= code.length /\ Hid (QW wr (w.heap.size + 1) (List.replicate j (-1) ++ List.replicate (code.length - j) 0)) /\ Hid (W.grownBy wr (some (w.heap.size + 1)))) (fun i _ => code.length - (intOf i).toNat)
  case atStart => exact ⟨0, rfl, Nat.zero_le _, by simpa [Hid] using gB, ⟨rfl, rfl, rfl, Nat.le_refl _, fun _ _ _ => rfl⟩⟩
  case round =>
   obtain ⟨j, rfl, hj, HB, HG⟩ := hrel; by_cases hjn : j < code.length
   ·obtain ⟨x0, fx⟩ := HB.out.cell j (by simp; omega)
    have hi0 : (0 : Int) <= (j : Int) := by omega
    have hi1 : (j : Int) < (code.length : Int) := by omega
    have HB2 := Z9 (HB.out.set j (-1)); have he : (List.replicate j (-1 : Int) ++ List.replicate (code.length - j) 0).set j (-1) = List.replicate (j + 1) (-1) ++ List.replicate (code.length - (j + 1)) 0 := by
     obtain ⟨m, hm⟩ : ∃ m, code.length - j = m + 1 := ⟨code.length - j - 1, by omega⟩; rw [hm, show code.length - (j + 1) = m by omega, List.set_append_right _ _ (by simp)]; simp only [List.length_replicate, Nat.sub_self, List.replicate_succ, List.set_cons_zero]; rw [<- List.replicate_succ, List.replicate_succ', List.append_assoc]; rfl
    rw [he] at HB2; have HG2 := Z9 (VD HG.out (Zv wr (w.heap.size + 1) j (.int .i64 (-1)))); clear he HB HG; go_wp2_with fail; go_round
    case rel => exact ⟨j + 1, by go_num, by omega, HB2, HG2⟩
    case measure => simp [intOf]; omega
   ·obtain rfl : j = code.length := by omega
    have HB1 : Hid (QW wr (w.heap.size + 1) (List.replicate code.length (-1))) := by have := HB.out; simpa [Hid] using this
    obtain ⟨x0, fx⟩ := HB1.out.cell 0 (by simp; omega); have hbr := hb0.trans (ZX (B := w.heap.size) HG.out (by omega) (fun k hk => by cases hk; omega)); have gF1 := (HG.out.block w.heap.size (by omega) (fun e => by have := Option.some.inj e; omega)).trans gF; have hlt1 := Z6 HB1.out; have HB2 := HB1.out.set 0 0; have hgs := Zv wr (w.heap.size + 1) 0 (.int .i64 0); have hbs := hbr.trans (ZX (B := w.heap.size) hgs (by omega) (fun k hk => by cases hk; omega)); have gF2 := (hgs.block w.heap.size (by omega) (fun e => by have := Option.some.inj e; omega)).trans gF1; have hz2 : (wr.setCell ⟨w.heap.size + 1, 0, none⟩ (.int .i64 0)).heap.size = wr.heap.size := by simp
    have hga := Z8 (wr.setCell ⟨w.heap.size + 1, 0, none⟩ (.int .i64 0)) (.cells #[.int .i64 0] 3); have HB3 := Z9 (HB2.grown hga (by nofun)); have HF3 := Z9 ((hga.block w.heap.size (by omega) (by nofun)).trans gF2); have GJ := Z9 (hbs.trans (ZX (B := w.heap.size) hga (by omega) (by nofun))); have HQ3 := Z9 (qX (wr.setCell ⟨w.heap.size + 1, 0, none⟩ (.int .i64 0)) (w.heap.size + 1 + 1) wr.heap.size hz2 (by omega)); have HI3 := Z9 (Aa code hn0); clear hbr gF1 HB2 hgs hbs gF2 hz2 hga HB HG HB1 gB gF hb0; go_wp2_with fail; go_loopw [7, 8] (fun mv tv wr => ∃ (bs : List Int) (todo : List Nat) (m : Int), mv = .int .i64 m /\ Hid (Qg wr (w.heap.size + 1 + 1) tv todo) /\ Hid (QW wr (w.heap.size + 1) bs) /\ Hid (wr.heap[w.heap.size]? = some (.cells #[.int .i64 0, .int .i64 0, .int .i64 0, .slice a code.length c] 53 (0, 0))) /\ Hid (Below w.heap.size w wr) /\ Hid (Inv code bs todo m none 0) /\ m <= 20000 /\ 2 * GR bs + todo.length <= 40001) (fun _ tv wr => 2 * GN wr (w.heap.size + 1) + lenOf tv)
    case atStart => exact ⟨_, _, 0, rfl, HQ3, HB3, HF3, GJ, HI3, by decide, by have := J5 code hn0; simp only [List.length_singleton]; omega⟩
    case round =>
     rename World => V
     clear HB3 HF3 GJ HQ3 HI3; obtain ⟨bs, todo, m, rfl, HQ, HB, HF, xH, HI, hm, om⟩ := hrel; have hm0 := HI.out.m0; cases todo with
     | nil =>
       obtain ⟨qb, qo, qc, abM, rfl, _⟩ := HQ.out; simp only [List.length_nil]; go_wp2; go_ret2; exact ⟨_, _, rfl, HI.out.end hn0, xH.out⟩
     | cons k rest =>
       obtain ⟨qb, qo, qc, rfl, abN, abO, hqc, hq0, hrest⟩ := HQ.out.first
       have jw := Z9 hrest; have aR := HI.out.inn k (List.mem_cons_self ..); obtain ⟨hk, hkne⟩ := aR; have hlab := HI.out.lab k hk hkne; have abH := HI.out.len; obtain ⟨hd0, _, hd1⟩ := hlab; obtain ⟨bc, oc, cc, hcv, _, hbl, e0, e1, e2⟩ := Bw Hc.out k hk; obtain ⟨rfl, _, rfl⟩ := Value.slice.inj hcv; have q0 := (xH.out.cell (p := ⟨bc, oc + k * 3, none⟩) hbl).trans e0; have q1 := (xH.out.cell (p := ⟨bc, oc + k * 3 + 1, none⟩) hbl).trans e1; have q2 := (xH.out.cell (p := ⟨bc, oc + k * 3 + 2, none⟩) hbl).trans e2; have hpb := Md (code.getD k default).op (code.getD k default).a (code.getD k default).b; obtain ⟨P, U, E, hE⟩ : ∃ P U E, Ya (code.getD k default).op (code.getD k default).a (code.getD k default).b = (P, U, E) := ⟨_, _, _, rfl⟩; have hP : Hid (pops code k = P) := congrArg Prod.fst hE; have hU : Hid (pushes code k = U) := congrArg (fun t : Int × Int × Int => t.2.1) hE; have hEE : Hid (qZ code k = E) := congrArg (fun t : Int × Int × Int => t.2.2) hE; rw [hE] at hpb; simp only at hpb; obtain ⟨hP0, hP1, hU0, hU1, hE0, hE1⟩ := hpb; have aQ : Hid (∀ u, Calls Tryz.prog 38 #[.agg #[.int .i64 (code.getD k default).op, .int .i64 (code.getD k default).a, .int .i64 (code.getD k default).b]] u fun e w' => e = .returned (.tuple #[.int .i64 P, .int .i64 U, .int .i64 E]) /\ Below u.heap.size u w') := fun u => by
        have := Ea (code.getD k default).op (code.getD k default).a (code.getD k default).b u; unfold NU at this; rw [hE] at this; exact this
       generalize code.getD k default = ii at *; obtain ⟨io, ix, iy⟩ := ii; simp only at q0 q1 q2 aQ; have abP : (0 : Int) <= (k : Int) := by omega
       have abQ : (k : Int) < (code.length : Int) := by omega
       have hrl : (0 : Int) < (rest.length : Int) + 1 := by omega
       clear e0 e1 e2 hcv hE hrest; obtain ⟨G, hG⟩ : ∃ G, mV code k = G := ⟨_, rfl⟩; have HTg : Hid (∀ u, Below w.heap.size w u -> Calls Tryz.prog 39 #[.agg #[.int .i64 0, .int .i64 0, .int .i64 0, .slice (some ⟨bc, oc, none⟩) code.length c], .int .i64 k] u fun e w' => ∃ v, e = .returned (.tuple #[v, .int .i64 G]) /\ xC u.heap.size w' v (Rv code k).length (ints (Rv code k)) /\ Below u.heap.size u w') := fun u hu => by
        have := GU 0 0 0 (k : Int) _ code u (Xe.below Hc.out hu) (by omega); rw [<- hG]; exact this
       have HG := Z9 hG; clear hG; go_wp2_with fail; refine (aQ.out _).mono ?_; rintro e w2 ⟨rfl, hb2⟩; have hbw2 := xH.out.trans (hb2.mono xH.out.size); have hf2 := (hb2.block w.heap.size (Z6 HF.out)).trans HF.out; obtain ⟨f0, f1, f2, f3⟩ := WQ hf2; have HT2 := Z9 (HTg.out w2 hbw2); clear q0 q1 q2 hq0 aQ HTg; go_wp2_with fail; refine HT2.out.mono ?_; rintro e w3 ⟨nv, rfl, hrow3, hb3⟩; have hg23 := Below.trans hb2 (hb3.mono hb2.size); have hg3 := Yf hg23; have HB3 := Z9 (HB.out.grown hg3 (by nofun)); have HF3 := Z9 ((hb3.block w.heap.size (Z6 hf2)).trans hf2); have GJ := Z9 (hbw2.trans (hb3.mono hbw2.size)); have HR3 := Z9 (HQ.out.grown hg3 (by nofun)); have wT : Hid (V.heap.size <= w2.heap.size) := hb2.size; have jv : Hid (w2.heap.size <= w3.heap.size) := hb3.size; have jr := Z9 hrow3; have cB := hrow3.1; obtain ⟨na, nc, rfl, abR, _⟩ := cB; have hlt3 := Z6 HB3.out; obtain ⟨b0, bf⟩ := HB3.out.cell k (by omega); have oh : Hid (GN V (w.heap.size + 1) = GR bs) := HB.out.GN; clear f0 f1 f2 f3 hf2 HT2 hrow3 hb3 hb2 hg23 hg3 HB HF xH hbw2 jw HQ; generalize hdd : bs.getD k (-1) = d at *; have Hdd := Z9 hdd; by_cases hE0 : E = 0
       ·subst hE0
        by_cases hG0 : G = 0
        ·subst hG0
         by_cases jq : d < P
         ·have hbad := HI.out.fault (c := k) (List.mem_cons_self ..) (DZ _ _ _ (.inr (.inr (by rw [hP.out, hdd]; exact jq))))
          have Jh := Z9 (MB hn0 hbad); have aP : (d < P) = True := eq_true jq; clear hbad jq hdd; go_wp2; go_ret2; exact ⟨_, _, rfl, Jh.out, GJ.out⟩
         ·have aP : (d < P) = False := eq_false jq
          have hok : Pb code k (bs.getD k (-1)) := ⟨hEE.out, HG.out, by rw [hP.out, hdd]; omega⟩; have hA : O9 code k d = d + (U - P) := by unfold O9; rw [hP.out, hU.out]; omega
          have hI0 := HI.out.take k (List.mem_cons_self ..) (rest := rest) (fun t ht => List.mem_cons.1 ht) (fun t ht => List.mem_cons_of_mem _ ht) hok (max (max m d) (d + (U - P))) (by rw [hdd, hA]); have hw1 : IntKind.i64.wrap (U - P) = U - P := YJ _ (by omega) (by omega); have hw2 : IntKind.i64.wrap (d + (U - P)) = d + (U - P) := YJ _ (by omega) (by omega); have hm20 : max (max m d) (d + (U - P)) <= 20000 := by omega
          have HI0 := Z9 hI0; have HA := Z9 hA; have abS := hd1; clear hI0 hA hok hdd HI jq; go_upto_region 21 with fail
          rename World => w3
          go_cut [7] from 76 to 78 (fun v wx => v = .int .i64 (max m d) /\ wx = w3)
          case first =>
           by_cases hmd : m < d
           ·have hx : Hid (max m d = d) := by show _ = _; omega
            go_wp2_with fail; go_meet; exact ⟨by rw [hx.out], rfl⟩
           ·have hx : Hid (max m d = m) := by show _ = _; omega
            go_wp2_with fail; go_meet; exact ⟨by rw [hx.out], rfl⟩
          case rest =>
           obtain ⟨rfl, rfl⟩ := hcut
           rename World => w3
           generalize hm1 : max m d = m1 at *; have Hm1 := Z9 hm1; clear hm1; go_upto_region 23 with fail; go_cut [7] from 84 to 86 (fun v wx => v = .int .i64 (max m1 (d + (U - P))) /\ wx = w3)
           case first =>
            by_cases hmd : m1 < d + (U - P)
            ·have hx : Hid (max m1 (d + (U - P)) = d + (U - P)) := by show _ = _; omega
             go_wp2_with fail; go_meet; exact ⟨by rw [hx.out], rfl⟩
            ·have hx : Hid (max m1 (d + (U - P)) = m1) := by show _ = _; omega
             go_wp2_with fail; go_meet; exact ⟨by rw [hx.out], rfl⟩
           case rest =>
            obtain ⟨rfl, rfl⟩ := hcut
            rename World => w3
            generalize max m1 (d + (U - P)) = m2 at *; generalize d + (U - P) = A at *; go_wp2_with fail; have hs3 : V.heap.size <= w2.heap.size := wT.out; have abT := qY code k; have hs23 : w2.heap.size <= w3.heap.size := jv.out; have HL0 : Hid (Bv (.cells #[.int .i64 0, .int .i64 0, .int .i64 0, .slice (some ⟨bc, oc, none⟩) code.length c] 53 (0, 0)) w.heap.size w2.heap.size w3.heap.size w w3 w3 (.slice (some ⟨qb, qo, none⟩) (rest.length + 1) qc) (k :: rest) bs) :=
             ⟨HR3.out, fun b off sp n c e => by have := (Value.slice.inj e).1; simp at this; left; omega, HB3.out, HF3.out, GJ.out, fun _ _ _ => rfl, Nat.le_refl _, by omega, by omega⟩
            go_loopw [8, 89] (fun tv i wr => ∃ (j : Nat) (bs' : List Int) (todo' : List Nat), i = .int .i64 j /\ j <= (Rv code k).length /\ Hid (Bv (.cells #[.int .i64 0, .int .i64 0, .int .i64 0, .slice (some ⟨bc, oc, none⟩) code.length c] 53 (0, 0)) w.heap.size w2.heap.size w3.heap.size w w3 wr tv (k :: todo') bs') /\ Hid (Inv code bs' todo' m2 (some k) j) /\ Hid (bs'.getD k (-1) = d) /\ 2 * GR bs' + todo'.length <= 2 * GR bs + rest.length) (fun _ i _ => (Rv code k).length - (intOf i).toNat)
            case atStart => exact ⟨0, bs, rest, rfl, Nat.zero_le _, HL0, HI0, Hdd, Nat.le_refl _⟩
            case round =>
             rename World => V4
             clear HB3 HF3 GJ HR3 HI0 Hdd b0 bf HL0; obtain ⟨j, bs', todo', rfl, hj, HL, HI, Hd, hms⟩ := hrel; by_cases hjn : j < (Rv code k).length
             ·obtain ⟨nb, no, nc', cB, aO, hnlt, wS⟩ := jr.out.cell (by omega)
              obtain ⟨rfl, _, rfl⟩ := Value.slice.inj cB; have n0 := (World.cell?_of_block (a := ⟨nb, no + j, none⟩) (HL.out.kp nb aO hnlt)).trans (wS j hjn); obtain ⟨hkn, hkne', hok, _⟩ := HI.out.now k rfl; have hmem : (Rv code k).getD j 0 ∈ Rv code k := by simp only [List.getD_eq_getElem?_getD, List.getElem?_eq_getElem hjn, Option.getD_some]; exact List.getElem_mem hjn
              obtain ⟨t0, t1⟩ := Jk code k hok.2.1 _ hmem; obtain ⟨tn, htn⟩ := Int.eq_ofNat_of_zero_le t0; have jo : ((Rv code k).getD j 0).toNat = tn := by rw [htn]; rfl
              have aN := HI.out.len; obtain ⟨b1, bf1⟩ := HL.out.bs.cell tn (by omega); rw [htn] at n0; have ht0 : (0 : Int) <= (tn : Int) := by omega
              have ht1 : (tn : Int) < (code.length : Int) := by omega
              have hj0 : (0 : Int) <= (j : Int) := by omega
              have hj1 : (j : Int) < ((Rv code k).length : Int) := by omega
              have HAf : Hid (O9 code k (bs'.getD k (-1)) = A) := by show _ = _; rw [Hd.out]; exact HA.out
              have GI := Z9 (fun he => HI.out.same hjn he); have LY := Z9 (fun h1 h2 => HI.out.clash hjn h1 h2); have LX := Z9 (fun he h1 h2 h3 => HI.out.fresh (todo' := todo' ++ [tn]) hjn he h1 h2 h3); rw [jo, HAf.out] at GI LY LX; have htk : tn = k -> bs'.getD tn (-1) ≠ -1 := fun e => by rw [e]; exact hkne'
              have aM := Z9 htk; clear wS cB hmem htn jo hok t0 t1 htk hkne'; by_cases hb : bs'.getD tn (-1) = -1
              ·rw [hb] at b1
               have hf := LX.out hb (fun t ht => (List.mem_append.1 ht).imp id (fun h => by simpa using h)) (fun t ht => List.mem_append.2 (.inl ht)) (List.mem_append.2 (.inr (List.mem_singleton.2 rfl))); obtain ⟨hIn, hun⟩ := hf; have bZ := Z9 hIn; have hdn : Hid ((bs'.set tn A).getD k (-1) = d) := by
                show _ = _
                simp only [List.getD_eq_getElem?_getD, List.getElem?_set]; rw [Z7 (fun e => aM.out e hb)]; have := Hd.out; simpa [List.getD] using this
               have aL := Z9 ((HL.out.label tn A).alloc (.cells #[.int .i64 (tn : Int)] 3)); obtain ⟨ab, ao, ac, rfl, jm, og, hac, hcells, hspare, hpush⟩ := aL.out.q.form; have mO := Z9 hspare; have jl := Z9 hpush; have mM := Z9 hcells; have hun' : 2 * GR (bs'.set tn A) + (todo' ++ [tn]).length <= 2 * GR bs + rest.length := by rw [List.length_append, List.length_singleton]; omega
               have htl : todo'.length <= 40001 := by
                have := om; simp only [List.length_cons] at this; omega
               clear hIn hspare hpush hcells GI LY LX HL HI Hd hb; go_wp2_with (at_builtin; refine wpList_append_arg _ rfl _ _ 101 rfl 3 i0 (.int .i64 0) 1 8 Tryz.underlying101 hi hz0 hz1 hz2 rfl (by decide) ab ao (todo'.length + 1) ac (WL (k :: todo')) rfl ?c0 ?c1 ⟨V4.heap.size, 0, none⟩ 1 1 [.int .i64 (tn : Int)] rfl rfl ?c2 ?c3 ?c4 ?c5 ?c6 ?room ?grow)
               case c0 => simp [WL]
               case c1 => exact mM.out
               case c3 => rfl
               case c4 => exact mO.out
               case c5 => unfold maxLen; omega
               case c6 => omega
               case room =>
                intro hr; have hp := jl.out hr tn; have aK := Z9 (aL.out.room tn (todo'.length + 1 + 1) jm og _ hp); clear hp; simp only [World.setCells, Nat.mul_one]; go_wp2_with fail; go_roundw
                case rel => exact ⟨j + 1, bs'.set tn A, todo' ++ [tn], by go_num, by omega, aK, bZ, hdn, hun'⟩
                case measure => simp [intOf]; omega
               case grow =>
                intro hr v' w5 hown hgrow; have aK := Z9 (aL.out.grow tn (todo'.length + 1 + 1) (V4.heap.size + 1) (by simp) rfl hown hgrow); clear hown hgrow; go_wp2_with fail; go_roundw
                case rel => exact ⟨j + 1, bs'.set tn A, todo' ++ [tn], by go_num, by omega, aK, bZ, hdn, hun'⟩
                case measure => simp [intOf]; omega
              ·have Hb1 := HL.out.bs.cell tn (by omega)
               by_cases xG : bs'.getD tn (-1) = A
               ·have bZ := Z9 (GI.out xG)
                have hbn : (bs'.getD tn (-1) == -1) = false := Zt hb; have hA1 : A ≠ -1 := fun e => hb (xG.trans e)
                have abU : (A == -1) = false := Zt hA1; rw [xG] at b1; clear Hb1 xG hbn hb LY LX GI HI aM; go_wp2_with fail; go_roundw
                case rel => exact ⟨j + 1, bs', todo', by go_num, by omega, HL, bZ, Hd, hms⟩
                case measure => simp [intOf]; omega
               ·have Jh := Z9 (MB hn0 (LY.out hb xG))
                have xH := Z9 HL.out.bw; have hbn : (bs'.getD tn (-1) == -1) = false := Zt hb; have jk : (bs'.getD tn (-1) == A) = false := Zt xG; generalize bs'.getD tn (-1) = bt at *; clear Hb1 LY LX GI HI aM HL; go_wp2; go_ret2; exact ⟨_, _, rfl, Jh.out, xH.out⟩
             ·obtain rfl : j = (Rv code k).length := by omega
              have HIc := Z9 (HI.out.close (Nat.le_refl _)); obtain ⟨ab, ao, ac, rfl, jm, og, hac, _, hqr⟩ := HL.out.q.first
              have bY := Z9 hqr; have Hbs := Z9 HL.out.bs; have Hff := Z9 HL.out.f; have xH := Z9 HL.out.bw; have hng : Hid (GN V4 (w.heap.size + 1) = GR bs') := HL.out.bs.GN; have wR : 2 * GR bs' + todo'.length <= 40001 := by have := om; simp only [List.length_cons] at this; omega
              have hi1 : (1 : Int) <= (todo'.length : Int) + 1 := by omega
              have hi2 : (1 : Int) <= (ac : Int) := by omega
              have hi3 : 1 <= ac := by omega
              clear hqr HI HL; by_cases zW : ac = 1
              ·have ji : (ac = 1) = True := eq_true zW
               rw [ZY zW] at bY; clear zW; go_wp2_with fail; go_roundw
               case rel => exact ⟨bs', todo', m2, rfl, bY, Hbs, Hff, xH, HIc, hm20, wR⟩
               case measure =>
                have e1 := hng.out; have e2 := oh.out; simp only [lenOf]; rw [e1, e2]; omega
              ·have ji : (ac = 1) = False := eq_false zW
               rw [Z7 zW] at bY; clear zW; go_wp2_with fail; go_roundw
               case rel => exact ⟨bs', todo', m2, rfl, bY, Hbs, Hff, xH, HIc, hm20, wR⟩
               case measure =>
                have e1 := hng.out; have e2 := oh.out; simp only [lenOf]; rw [e1, e2]; omega
        ·have hbad := HI.out.fault (c := k) (List.mem_cons_self ..) (DZ _ _ _ (.inr (.inl (by rw [HG.out]; exact hG0))))
         have Jh := Z9 (MB hn0 hbad); have hGb : (G == 0) = false := Zt hG0; have hGn : (¬ G = 0) = True := eq_true hG0; clear hbad hdd; go_wp2; go_ret2; exact ⟨_, _, rfl, Jh.out, GJ.out⟩
       ·have hbad := HI.out.fault (c := k) (List.mem_cons_self ..) (DZ _ _ _ (.inl (by rw [hEE.out]; exact hE0)))
        have Jh := Z9 (MB hn0 hbad); have hEb : (E == 0) = false := Zt hE0; have hEn : (¬ E = 0) = True := eq_true hE0; clear hbad hdd; go_wp2; go_ret2; exact ⟨_, _, rfl, Jh.out, GJ.out⟩
end Go.Proofs.YtbcfdebdikgijaaGreatDoor
namespace Go.Proofs.YtbcfdebdikgijaaGreatDoor
end Go.Proofs.YtbcfdebdikgijaaGreatDoor
namespace Go.Proofs.YtbcfdebdikgijaaGreatDoor
open Go Go.RowKit
theorem Qt (part : Int) (w : World) : Calls Tryz.prog 93 #[.int .i64 12, .int .i64 part] w fun e w' => e = .returned (.bool false) /\ w = w' := by
 go_in
 go_wp2
 go_ret
 exact ⟨rfl, rfl⟩
def U5 (op n : Int) : Value := .agg #[.int .i64 op, .int .i64 n, .string ⟨#[]⟩, .slice none 0 0]
def Sv (B : Nat) : Value := .agg #[.int .i64 12, .int .i64 1, .string ⟨#[]⟩, .slice (some ⟨B, 0, none⟩) 2 2]
def Wt (w : World) (B : Nat) : Prop := w.heap[B]? = some (.cells #[.int .i64 21, .int .i64 0, .string ⟨#[]⟩, .slice none 0 0, .int .i64 2, .int .i64 1, .string ⟨#[]⟩, .slice none 0 0] 36 (0, 0))
theorem Wt.below {w w' : World} {B : Nat} (h : Wt w B) (hb : Below w.heap.size w w') : Wt w' B := (hb.block B (Z6 h)).trans h
theorem Wt.cells {w : World} {B : Nat} (h : Wt w B) : w.cell? ⟨B, 0, none⟩ = some (.int .i64 21) /\ w.cell? ⟨B, 1, none⟩ = some (.int .i64 0) /\ w.cell? ⟨B, 2, none⟩ = some (.string ⟨#[]⟩) /\ w.cell? ⟨B, 3, none⟩ = some (.slice none 0 0) /\ w.cell? ⟨B, 4, none⟩ = some (.int .i64 2) /\ w.cell? ⟨B, 5, none⟩ = some (.int .i64 1) /\ w.cell? ⟨B, 6, none⟩ = some (.string ⟨#[]⟩) /\ w.cell? ⟨B, 7, none⟩ = some (.slice none 0 0) := by
 unfold Wt at h
 simp [World.cell?, h]
theorem X9 {w : World} {q : Nat} {x y z u : Value} {t : TypeId} (h : w.heap[q]? = some (.cells #[x, y, z, u] t (0, 0))) : w.cell? ⟨q, 0, none⟩ = some x /\ w.cell? ⟨q, 1, none⟩ = some y /\ w.cell? ⟨q, 2, none⟩ = some z /\ w.cell? ⟨q, 3, none⟩ = some u := WQ h
theorem TU (op n : Int) (w : World) : Below w.heap.size w (w.alloc (.cells #[.int .i64 op, .int .i64 n, .string ⟨#[]⟩, .slice none 0 0] 36)) := (Below.refl _ _).alloc (Nat.le_refl _) _
theorem TT (B : Nat) (w : World) : Below w.heap.size w (w.alloc (.cells #[.int .i64 12, .int .i64 1, .string ⟨#[]⟩, .slice (some ⟨B, 0, none⟩) 2 2] 36)) := (Below.refl _ _).alloc (Nat.le_refl _) _
theorem OZ (op n : Int) (w : World) : Calls Tryz.prog 97 #[U5 op n] w fun e w' => e = .returned (.tuple #[.int .i64 1, .int .i64 1]) /\ Below w.heap.size w w' := by
 unfold U5
 have hb := TU op n w
 go_in
 go_wp2_with fail
 go_loop [2, 3, 11] (fun x2 x3 x11 => x2 = .int .i64 0 /\ x3 = .int .i64 0 /\ x11 = .int .i64 0) (fun _ _ _ => 0)
 case atStart => exact ⟨rfl, rfl, rfl⟩
 case round =>
  obtain ⟨rfl, rfl, rfl⟩ := hrel; go_wp2; go_ret2; exact ⟨rfl, hb⟩
theorem Nf (op n k : Int) (w : World) : Calls Tryz.prog 67 #[U5 op n, .int .i64 k] w fun e w' => e = .returned (.int .i64 k) /\ Below w.heap.size w w' := by
 unfold U5
 have hb := TU op n w
 go_in
 go_wp2_with fail
 go_loop [5, 12] (fun x5 x12 => x5 = .int .i64 k /\ x12 = .int .i64 0) (fun _ _ => 0)
 case atStart => exact ⟨rfl, rfl⟩
 case round =>
  obtain ⟨rfl, rfl⟩ := hrel; go_wp2; go_ret; exact ⟨rfl, hb⟩
theorem Jg (B : Nat) (w : World) (h : Wt w B) : Calls Tryz.prog 97 #[Sv B] w fun e w' => e = .returned (.tuple #[.int .i64 3, .int .i64 2]) /\ Below w.heap.size w w' := by
 unfold Sv
 have hb := TT B w
 have hN := h.below hb
 go_in
 go_wp2_with fail
 generalize w.alloc (.cells #[.int .i64 12, .int .i64 1, .string ⟨#[]⟩, .slice (some ⟨B, 0, none⟩) 2 2] 36) = W at *
 clear h
 go_loopw [2, 3, 11] (fun a b i wr => (i = .int .i64 0 /\ a = .int .i64 0 /\ b = .int .i64 0 \/ i = .int .i64 1 /\ a = .int .i64 1 /\ b = .int .i64 1 \/ i = .int .i64 2 /\ a = .int .i64 2 /\ b = .int .i64 1) /\ Below W.heap.size W wr) (fun _ _ i _ => 2 - (intOf i).toNat)
 case atStart => exact ⟨.inl ⟨rfl, rfl, rfl⟩, Below.refl _ _⟩
 case round =>
  obtain ⟨hrel, hbr⟩ := hrel; have hN2 := hN.below hbr; obtain ⟨c0, c1, c2, c3, c4, c5, c6, c7⟩ := hN2.cells; rcases hrel with ⟨rfl, rfl, rfl⟩ | ⟨rfl, rfl, rfl⟩ | ⟨rfl, rfl, rfl⟩
  ·go_wp2_with fail
   refine (OZ _ _ _).mono ?_; rintro e w2 ⟨rfl, hb2⟩; have hb3 := hbr.trans (((Below.refl _ _).alloc (Nat.le_refl _) _ |>.trans (hb2.mono (by simp))).mono hbr.size); clear hb2 c0 c1 c2 c3 c4 c5 c6 c7 hN2; go_wp2_with fail; go_roundw
   case rel => exact ⟨.inr (.inl ⟨rfl, rfl, rfl⟩), hb3⟩
   case measure => simp [intOf]
  ·go_wp2_with fail
   refine (OZ _ _ _).mono ?_; rintro e w2 ⟨rfl, hb2⟩; have hb3 := hbr.trans (((Below.refl _ _).alloc (Nat.le_refl _) _ |>.trans (hb2.mono (by simp))).mono hbr.size); clear hb2 c0 c1 c2 c3 c4 c5 c6 c7 hN2; go_wp2_with fail; go_roundw
   case rel => exact ⟨.inr (.inr ⟨rfl, rfl, rfl⟩), hb3⟩
   case measure => simp [intOf]
  ·have hbe := hb.trans (hbr.mono hb.size)
   go_wp2; go_ret2; exact ⟨rfl, hbe⟩
theorem DY (B : Nat) (w : World) (h : Wt w B) : Calls Tryz.prog 77 #[Sv B] w fun e w' => e = .returned (.bool false) /\ Below w.heap.size w w' := by
 unfold Sv
 have hb := TT B w
 have hN := h.below hb
 have HM := Z9 (Jg B _ hN)
 go_in
 go_wp2_with fail
 refine HM.out.mono ?_
 rintro e w2 ⟨rfl, hb2⟩
 have hbe := hb.trans (hb2.mono hb.size)
 go_wp2
 go_ret
 exact ⟨rfl, hbe⟩
theorem GH (B : Nat) (w : World) (h : Wt w B) : Calls Tryz.prog 67 #[Sv B, .int .i64 1] w fun e w' => e = .returned (.int .i64 1) /\ Below w.heap.size w w' := by
 unfold Sv
 have hb := TT B w
 have hN := h.below hb
 have gP := ZV w (.cells #[.int .i64 12, .int .i64 1, .string ⟨#[]⟩, .slice (some ⟨B, 0, none⟩) 2 2] 36)
 go_in
 go_wp2_with fail
 generalize w.alloc (.cells #[.int .i64 12, .int .i64 1, .string ⟨#[]⟩, .slice (some ⟨B, 0, none⟩) 2 2] 36) = W at *
 clear h
 go_loopw [5, 12] (fun b i wr => (i = .int .i64 0 \/ i = .int .i64 1 \/ i = .int .i64 2) /\ b = .int .i64 1 /\ Below W.heap.size W wr) (fun _ i _ => 2 - (intOf i).toNat)
 case atStart => exact ⟨.inl rfl, rfl, Below.refl _ _⟩
 case round =>
  obtain ⟨hrel, rfl, hbr⟩ := hrel; have hN2 := hN.below hbr; obtain ⟨c0, c1, c2, c3, c4, c5, c6, c7⟩ := hN2.cells; have gP2 := (hbr.block _ (Z6 gP)).trans gP; rcases hrel with rfl | rfl | rfl
  ·have ga := Z8 wr (.cells #[.int .i64 21, .int .i64 0, .string ⟨#[]⟩, .slice none 0 0] 36)
   have gP3 := (ga.block _ (Z6 gP2) (by nofun)).trans gP2; have gL3 := ZV wr (.cells #[.int .i64 21, .int .i64 0, .string ⟨#[]⟩, .slice none 0 0] 36); obtain ⟨p0, p1, p2, p3⟩ := X9 gP3; obtain ⟨l0, l1, l2, l3⟩ := X9 gL3; go_wp2_with fail; refine (Qt _ _).mono ?_; rintro e w' ⟨rfl, rfl⟩; go_wp2_with fail; refine (Nf _ _ _ _).mono ?_; rintro e w2 ⟨rfl, hb2⟩; have hb3 := hbr.trans (((Below.refl _ _).alloc (Nat.le_refl _) _ |>.trans (hb2.mono (by simp))).mono hbr.size); clear hb2 c0 c1 c2 c3 c4 c5 c6 c7 hN2 p0 p1 p2 p3 l0 l1 l2 l3; go_wp2_with fail; go_roundw
   case rel => exact ⟨.inr (.inl rfl), rfl, hb3⟩
   case measure => simp [intOf]
  ·have ga := Z8 wr (.cells #[.int .i64 2, .int .i64 1, .string ⟨#[]⟩, .slice none 0 0] 36)
   have gP3 := (ga.block _ (Z6 gP2) (by nofun)).trans gP2; have gL3 := ZV wr (.cells #[.int .i64 2, .int .i64 1, .string ⟨#[]⟩, .slice none 0 0] 36); obtain ⟨p0, p1, p2, p3⟩ := X9 gP3; obtain ⟨l0, l1, l2, l3⟩ := X9 gL3; go_wp2_with fail; refine (Qt _ _).mono ?_; rintro e w' ⟨rfl, rfl⟩; go_wp2_with fail; refine (Nf _ _ _ _).mono ?_; rintro e w2 ⟨rfl, hb2⟩; have hb3 := hbr.trans (((Below.refl _ _).alloc (Nat.le_refl _) _ |>.trans (hb2.mono (by simp))).mono hbr.size); clear hb2 c0 c1 c2 c3 c4 c5 c6 c7 hN2 p0 p1 p2 p3 l0 l1 l2 l3; go_wp2_with fail; go_roundw
   case rel => exact ⟨.inr (.inr rfl), rfl, hb3⟩
   case measure => simp [intOf]
  ·have hbe := hb.trans (hbr.mono hb.size)
   go_wp2; go_ret; exact ⟨rfl, hbe⟩
theorem YU (n a b : Int) (w : World) : Calls Tryz.prog 47 #[.int .i64 n, .int .i64 a, .int .i64 b] w fun e w' => e = .returned (.bool (Y7 n a b)) /\ w = w' := by
 go_in
 go_wp2
 all_goals
  go_ret; refine ⟨XT ?_, rfl⟩; simp [Y7] <;> omega
theorem Bt (w : World) : Calls Tryz.prog 113 #[.int .i64 1] w fun e w' => e = .returned (.int .i64 2) /\ w = w' := by
 go_in
 go_wp2
 go_ret
 exact ⟨rfl, rfl⟩
theorem DX (a : Addr) (w : World) : Calls Tryz.prog 98 #[.pointer (some a), U5 21 0, .int .i64 1] w fun e w' => e = .returned (.bool true) /\ Below w.heap.size w w' := by
 unfold U5
 have hb := TU 21 0 w
 go_in
 go_wp2_with fail
 refine (YU _ _ _ _).mono ?_
 rintro e w' ⟨rfl, rfl⟩
 go_wp2
 go_ret
 exact ⟨rfl, hb⟩
theorem wQ (a : Addr) (w : World) : Calls Tryz.prog 98 #[.pointer (some a), U5 2 1, .int .i64 1] w fun e w' => e = .returned (.bool true) /\ Below w.heap.size w w' := by
 unfold U5
 have hb := TU 2 1 w
 go_in
 go_wp2_with fail
 refine (YU _ _ _ _).mono ?_
 rintro e w' ⟨rfl, rfl⟩
 go_wp2
 go_ret
 exact ⟨rfl, hb⟩
theorem zV (a : Addr) (B : Nat) (w : World) : Calls Tryz.prog 98 #[.pointer (some a), Sv B, .int .i64 1] w fun e w' => e = .returned (.bool true) /\ Below w.heap.size w w' := by
 unfold Sv
 have hb := TT B w
 go_in
 go_wp2_with fail
 refine (Bt _).mono ?_
 rintro e w' ⟨rfl, rfl⟩
 go_wp2_with fail
 refine (Bt _).mono ?_
 rintro e w' ⟨rfl, rfl⟩
 go_wp2
 go_ret
 exact ⟨rfl, hb⟩
theorem DW (a : Addr) (w : World) : Calls Tryz.prog 78 #[.pointer (some a), U5 21 0, .int .i64 1] w fun e w' => e = .returned (.bool true) /\ Below w.heap.size w w' := by
 unfold U5
 have hb := TU 21 0 w
 have gP := ZV w (.cells #[.int .i64 21, .int .i64 0, .string ⟨#[]⟩, .slice none 0 0] 36)
 go_in
 go_wp2_with fail
 refine (DX _ _).mono ?_
 rintro e w2 ⟨rfl, hb2⟩
 have gP2 := (hb2.block _ (Z6 gP)).trans gP
 obtain ⟨p0, p1, p2, p3⟩ := X9 gP2
 have hbe := hb.trans (hb2.mono hb.size)
 go_wp2_with fail
 go_loop [18] (fun i => i = .int .i64 0) (fun _ => 0)
 case atStart => rfl
 case round =>
  subst hrel; go_wp2; go_ret; exact ⟨rfl, hbe⟩
theorem wP (a : Addr) (w : World) : Calls Tryz.prog 78 #[.pointer (some a), U5 2 1, .int .i64 1] w fun e w' => e = .returned (.bool true) /\ Below w.heap.size w w' := by
 unfold U5
 have hb := TU 2 1 w
 have gP := ZV w (.cells #[.int .i64 2, .int .i64 1, .string ⟨#[]⟩, .slice none 0 0] 36)
 go_in
 go_wp2_with fail
 refine (wQ _ _).mono ?_
 rintro e w2 ⟨rfl, hb2⟩
 have gP2 := (hb2.block _ (Z6 gP)).trans gP
 obtain ⟨p0, p1, p2, p3⟩ := X9 gP2
 have hbe := hb.trans (hb2.mono hb.size)
 go_wp2_with fail
 go_loop [18] (fun i => i = .int .i64 0) (fun _ => 0)
 case atStart => rfl
 case round =>
  subst hrel; go_wp2; go_ret; exact ⟨rfl, hbe⟩
theorem zU (a : Addr) (B : Nat) (w : World) (h : Wt w B) : Calls Tryz.prog 78 #[.pointer (some a), Sv B, .int .i64 1] w fun e w' => e = .returned (.bool true) /\ Below w.heap.size w w' := by
 unfold Sv
 have hb := TT B w
 have hN := h.below hb
 have gP := ZV w (.cells #[.int .i64 12, .int .i64 1, .string ⟨#[]⟩, .slice (some ⟨B, 0, none⟩) 2 2] 36)
 go_in
 go_wp2_with fail
 generalize w.alloc (.cells #[.int .i64 12, .int .i64 1, .string ⟨#[]⟩, .slice (some ⟨B, 0, none⟩) 2 2] 36) = W0 at *
 clear h
 refine (zV _ _ _).mono ?_
 rintro e W ⟨rfl, hb2⟩
 have gP1 := (hb2.block _ (Z6 gP)).trans gP
 have hN1 := hN.below hb2
 have hbW := hb.trans (hb2.mono hb.size)
 obtain ⟨p0, p1, p2, p3⟩ := X9 gP1
 clear hN gP hb2 hb
 go_wp2_with fail
 clear p0 p1 p2 p3
 go_loopw [18] (fun i wr => (i = .int .i64 0 \/ i = .int .i64 1 \/ i = .int .i64 2) /\ Below W.heap.size W wr) (fun i _ => 2 - (intOf i).toNat)
 case atStart => exact ⟨.inl rfl, Below.refl _ _⟩
 case round =>
  obtain ⟨hrel, hbr⟩ := hrel; have hN2 := hN1.below hbr; obtain ⟨c0, c1, c2, c3, c4, c5, c6, c7⟩ := hN2.cells; have gP2 := (hbr.block _ (Z6 gP1)).trans gP1; rcases hrel with rfl | rfl | rfl
  ·have ga := Z8 wr (.cells #[.int .i64 21, .int .i64 0, .string ⟨#[]⟩, .slice none 0 0] 36)
   have gP3 := (ga.block _ (Z6 gP2) (by nofun)).trans gP2; have gL3 := ZV wr (.cells #[.int .i64 21, .int .i64 0, .string ⟨#[]⟩, .slice none 0 0] 36); obtain ⟨p0, p1, p2, p3⟩ := X9 gP3; obtain ⟨l0, l1, l2, l3⟩ := X9 gL3; go_wp2_with fail; refine (Qt _ _).mono ?_; rintro e w' ⟨rfl, rfl⟩; go_wp2_with fail; refine (DW _ _).mono ?_; rintro e w2 ⟨rfl, hb2⟩; have hb3 := hbr.trans (((Below.refl _ _).alloc (Nat.le_refl _) _ |>.trans (hb2.mono (by simp))).mono hbr.size); clear hb2 c0 c1 c2 c3 c4 c5 c6 c7 hN2 p0 p1 p2 p3 l0 l1 l2 l3; go_wp2_with fail; go_round
   case rel => exact ⟨.inr (.inl rfl), hb3⟩
   case measure => simp [intOf]
  ·have ga := Z8 wr (.cells #[.int .i64 2, .int .i64 1, .string ⟨#[]⟩, .slice none 0 0] 36)
   have gP3 := (ga.block _ (Z6 gP2) (by nofun)).trans gP2; have gL3 := ZV wr (.cells #[.int .i64 2, .int .i64 1, .string ⟨#[]⟩, .slice none 0 0] 36); obtain ⟨p0, p1, p2, p3⟩ := X9 gP3; obtain ⟨l0, l1, l2, l3⟩ := X9 gL3; go_wp2_with fail; refine (Qt _ _).mono ?_; rintro e w' ⟨rfl, rfl⟩; go_wp2_with fail; refine (wP _ _).mono ?_; rintro e w2 ⟨rfl, hb2⟩; have hb3 := hbr.trans (((Below.refl _ _).alloc (Nat.le_refl _) _ |>.trans (hb2.mono (by simp))).mono hbr.size); clear hb2 c0 c1 c2 c3 c4 c5 c6 c7 hN2 p0 p1 p2 p3 l0 l1 l2 l3; go_wp2_with fail; go_round
   case rel => exact ⟨.inr (.inr rfl), hb3⟩
   case measure => simp [intOf]
  ·have hbe := hbW.trans (hbr.mono hbW.size)
   go_wp2; go_ret; exact ⟨rfl, hbe⟩
def Nc (B : Nat) : Value := .agg #[.int .i64 0, .int .i64 12, .int .i64 1, .string ⟨#[]⟩, .slice (some ⟨B, 0, none⟩) 2 2]
theorem WY {w : World} {q : Nat} {x y z u v : Value} {t : TypeId} (h : w.heap[q]? = some (.cells #[x, y, z, u, v] t (0, 0))) : w.cell? ⟨q, 0, none⟩ = some x /\ w.cell? ⟨q, 1, none⟩ = some y /\ w.cell? ⟨q, 2, none⟩ = some z /\ w.cell? ⟨q, 3, none⟩ = some u /\ w.cell? ⟨q, 4, none⟩ = some v := by
 simp [World.cell?, h]
theorem Kz (B : Nat) (F : Value) (w : World) (h : Wt w B) (hF : ∃ f a b, F = .func f a b) : Calls Tryz.prog 49 #[Nc B, F] w fun e w' => e = .returned (.bool true) /\ Below w.heap.size w w' := by
 obtain ⟨f, fa, fb, rfl⟩ := hF
 unfold Nc
 have hb : Below w.heap.size w ((w.alloc (.cells #[.int .i64 0, .int .i64 12, .int .i64 1, .string ⟨#[]⟩, .slice (some ⟨B, 0, none⟩) 2 2] 38)).alloc (.cells #[.int .i64 0, .func f fa fb] 145)) := ((Below.refl _ _).alloc (Nat.le_refl _) _).alloc (by simp) _
 have gP : ((w.alloc (.cells #[.int .i64 0, .int .i64 12, .int .i64 1, .string ⟨#[]⟩, .slice (some ⟨B, 0, none⟩) 2 2] 38)).alloc (.cells #[.int .i64 0, .func f fa fb] 145)).heap[w.heap.size]? = some (.cells #[.int .i64 0, .int .i64 12, .int .i64 1, .string ⟨#[]⟩, .slice (some ⟨B, 0, none⟩) 2 2] 38 (0, 0)) := (Below.heap_alloc _ _ _ (by simp)).trans (ZV w _)
 have hN := h.below hb
 go_in
 go_wp2_with fail
 generalize ((w.alloc (.cells #[.int .i64 0, .int .i64 12, .int .i64 1, .string ⟨#[]⟩, .slice (some ⟨B, 0, none⟩) 2 2] 38)).alloc (.cells #[.int .i64 0, .func f fa fb] 145)) = W at *
 refine (YU _ _ _ _).mono ?_
 rintro e w' ⟨rfl, rfl⟩
 obtain ⟨p0, p1, p2, p3, p4⟩ := WY gP
 have hin : Y7 0 0 1000 = true := by decide
 rw [hin]
 go_wp2_with fail
 refine (DY _ _ hN).mono ?_
 rintro e w2 ⟨rfl, hb2⟩
 have gP2 := (hb2.block _ (Z6 gP)).trans gP
 have hN2 := hN.below hb2
 have hbb := hb.trans (hb2.mono hb.size)
 clear p0 p1 p2 p3 p4
 obtain ⟨p0, p1, p2, p3, p4⟩ := WY gP2
 go_wp2_with fail
 refine (zU _ _ _ hN2).mono ?_
 rintro e w3 ⟨rfl, hb3⟩
 have hbe := hbb.trans (hb3.mono hbb.size)
 go_wp2
 go_ret
 exact ⟨rfl, hbe⟩
theorem Nb (B : Nat) (w : World) (h : Wt w B) : Calls Tryz.prog 37 #[Nc B] w fun e w' => e = .returned (.tuple #[.int .i64 1, .int .i64 0]) /\ Below w.heap.size w w' := by
 unfold Nc
 have hmm := @run_makeMap Tryz.prog
 have g1 := Z8 w (.cells #[.int .i64 0, .int .i64 12, .int .i64 1, .string ⟨#[]⟩, .slice (some ⟨B, 0, none⟩) 2 2] 38)
 have gF := ZV w (.cells #[.int .i64 0, .int .i64 12, .int .i64 1, .string ⟨#[]⟩, .slice (some ⟨B, 0, none⟩) 2 2] 38)
 have hN := h.below (ZX g1 (Nat.le_refl _) (by nofun))
 have hb1 := ZX g1 (Nat.le_refl _) (by nofun)
 clear g1
 go_in
 go_upto_region 1 with fail
 generalize w.alloc (.cells #[.int .i64 0, .int .i64 12, .int .i64 1, .string ⟨#[]⟩, .slice (some ⟨B, 0, none⟩) 2 2] 38) = W at *
 have g2 := Z8 W (.map #[] 0)
 have g3 := Z8 (W.alloc (.map #[] 0)) (.cells #[.map (some W.heap.size)] 131)
 have mK := Z6 gF
 have gF3 := (g3.block _ (by simp; omega) (by nofun)).trans ((g2.block _ mK (by nofun)).trans gF)
 have hN3 := (hN.below (ZX g2 (Nat.le_refl _) (by nofun))).below (ZX g3 (Nat.le_refl _) (by nofun))
 have hb3 := (hb1.trans ((ZX (B := w.heap.size) g2 (by omega) (by nofun)))).trans (ZX (B := w.heap.size) g3 (by simp; omega) (by nofun))
 clear g2 g3
 obtain ⟨p0, p1, p2, p3, p4⟩ := WY gF3
 go_wp2_with fail
 refine (Kz _ _ _ hN3 ⟨_, _, _, rfl⟩).mono ?_
 rintro e w4 ⟨rfl, hb4⟩
 have gF4 := (hb4.block _ (Z6 gF3)).trans gF3
 have hN4 := hN3.below hb4
 have hb5 := hb3.trans (hb4.mono hb3.size)
 clear p0 p1 p2 p3 p4
 obtain ⟨p0, p1, p2, p3, p4⟩ := WY gF4
 go_wp2_with fail
 refine (GH _ _ hN4).mono ?_
 rintro e w5 ⟨rfl, hb6⟩
 have hbe := hb5.trans (hb6.mono hb5.size)
 go_wp2
 go_ret2
 exact ⟨rfl, hbe⟩
theorem Ky (w : World) : Calls Tryz.prog 51 #[.slice none 0 0, U5 21 0] w fun e w' => e = .returned (.slice none 0 0) /\ Below w.heap.size w w' := by
 unfold U5
 have hb := TU 21 0 w
 go_in
 go_wp2_with fail
 go_loop [0, 18] (fun l i => l = .slice none 0 0 /\ i = .int .i64 0) (fun _ _ => 0)
 case atStart => exact ⟨rfl, rfl⟩
 case round =>
  obtain ⟨rfl, rfl⟩ := hrel; go_wp2; go_ret; exact ⟨rfl, hb⟩
theorem GD (w : World) : Calls Tryz.prog 51 #[.slice none 0 0, U5 2 1] w fun e w' => e = .returned (.slice none 0 0) /\ Below w.heap.size w w' := by
 unfold U5
 have hb := TU 2 1 w
 go_in
 go_wp2_with fail
 go_loop [0, 18] (fun l i => l = .slice none 0 0 /\ i = .int .i64 0) (fun _ _ => 0)
 case atStart => exact ⟨rfl, rfl⟩
 case round =>
  obtain ⟨rfl, rfl⟩ := hrel; go_wp2; go_ret; exact ⟨rfl, hb⟩
theorem Jf (B : Nat) (w : World) (h : Wt w B) : Calls Tryz.prog 51 #[.slice none 0 0, Sv B] w fun e w' => e = .returned (.slice none 0 0) /\ Below w.heap.size w w' := by
 unfold Sv
 have hb := TT B w
 have hN := h.below hb
 go_in
 go_wp2_with fail
 generalize w.alloc (.cells #[.int .i64 12, .int .i64 1, .string ⟨#[]⟩, .slice (some ⟨B, 0, none⟩) 2 2] 36) = W at *
 clear h
 go_loopw [0, 18] (fun l i wr => (i = .int .i64 0 \/ i = .int .i64 1 \/ i = .int .i64 2) /\ l = .slice none 0 0 /\ Below W.heap.size W wr) (fun _ i _ => 2 - (intOf i).toNat)
 case atStart => exact ⟨.inl rfl, rfl, Below.refl _ _⟩
 case round =>
  obtain ⟨hrel, rfl, hbr⟩ := hrel; have hN2 := hN.below hbr; obtain ⟨c0, c1, c2, c3, c4, c5, c6, c7⟩ := hN2.cells; rcases hrel with rfl | rfl | rfl
  ·have gL3 := ZV wr (.cells #[.int .i64 21, .int .i64 0, .string ⟨#[]⟩, .slice none 0 0] 36)
   obtain ⟨l0, l1, l2, l3⟩ := X9 gL3; go_wp2_with fail; refine (Ky _).mono ?_; rintro e w2 ⟨rfl, hb2⟩; have hb3 := hbr.trans (((Below.refl _ _).alloc (Nat.le_refl _) _ |>.trans (hb2.mono (by simp))).mono hbr.size); clear hb2 c0 c1 c2 c3 c4 c5 c6 c7 hN2 l0 l1 l2 l3; go_wp2_with fail; go_roundw
   case rel => exact ⟨.inr (.inl rfl), rfl, hb3⟩
   case measure => simp [intOf]
  ·have gL3 := ZV wr (.cells #[.int .i64 2, .int .i64 1, .string ⟨#[]⟩, .slice none 0 0] 36)
   obtain ⟨l0, l1, l2, l3⟩ := X9 gL3; go_wp2_with fail; refine (GD _).mono ?_; rintro e w2 ⟨rfl, hb2⟩; have hb3 := hbr.trans (((Below.refl _ _).alloc (Nat.le_refl _) _ |>.trans (hb2.mono (by simp))).mono hbr.size); clear hb2 c0 c1 c2 c3 c4 c5 c6 c7 hN2 l0 l1 l2 l3; go_wp2_with fail; go_roundw
   case rel => exact ⟨.inr (.inr rfl), rfl, hb3⟩
   case measure => simp [intOf]
  ·have hbe := hb.trans (hbr.mono hb.size)
   go_wp2; go_ret; exact ⟨rfl, hbe⟩
theorem mJ (w : World) : Calls Tryz.prog 79 #[.slice none 0 0, .int .i64 0] w fun e w' => e = .returned (.slice none 0 0) /\ w = w' := by
 go_in
 go_wp2
 go_ret
 exact ⟨rfl, rfl⟩
theorem Br (w : World) : Calls Tryz.prog 54 #[.slice none 0 0] w fun e w' => e = .returned (.slice none 0 0) /\ w = w' := by
 have q47 : ∀ (w : World) (a : Option Addr) (n c n' c' : Nat), (binOp .eql 27 (.slice a n c) (.slice none n' c')).run Tryz.prog w = .ok (.bool a.isNone) w := fun w a n c n' c' => Lib.run_eql_slice_nil w _ _ a n c n' c' Tryz.underlying27
 go_in
 go_wp2
 go_ret
 exact ⟨rfl, rfl⟩
theorem S9 : (Tryz.prog.info? 9).map (fun i => (i.zero, i.size, i.bytes)) = some (some (.string ByteArray.empty), 1, 16) := by kernel_rfl
theorem GA (g : Nat) (w : World) (h : w.heap[g]? = some (.cells #[.slice none 0 0, .slice none 0 0] 27 (0, 0))) : Calls Tryz.prog 52 #[.slice (some ⟨g, 0, none⟩) 2 2] w fun e w' => e = .returned (.slice none 0 0) /\ w = w' := by
 have c0 : w.cell? ⟨g, 0, none⟩ = some (.slice none 0 0) := by simp [World.cell?, h]
 have c1 : w.cell? ⟨g, 1, none⟩ = some (.slice none 0 0) := by simp [World.cell?, h]
 clear h
 obtain ⟨is0, his, _, _, _⟩ := info_parts S9
 go_in
 go_wp2_with fail
 go_loop [3, 11] (fun n i => n = .int .i64 0 /\ (i = .int .i64 0 \/ i = .int .i64 1 \/ i = .int .i64 2)) (fun _ i => 2 - (intOf i).toNat)
 case atStart => exact ⟨rfl, .inl rfl⟩
 case round =>
  obtain ⟨rfl, hrel⟩ := hrel; rcases hrel with rfl | rfl | rfl
  ·go_wp2_with fail
   go_round
   case rel => exact ⟨rfl, .inr (.inl rfl)⟩
   case measure => simp [intOf]
  ·go_wp2_with fail
   go_round
   case rel => exact ⟨rfl, .inr (.inr rfl)⟩
   case measure => simp [intOf]
  ·go_wp2_with fail
   refine (mJ _).mono ?_; rintro e w' ⟨rfl, rfl⟩; go_wp2_with fail; go_loop [6, 27] (fun v i => v = .slice none 0 0 /\ (i = .int .i64 0 \/ i = .int .i64 1 \/ i = .int .i64 2)) (fun _ i => 2 - (intOf i).toNat)
   case atStart => exact ⟨rfl, .inl rfl⟩
   case round =>
    obtain ⟨rfl, hrel⟩ := hrel; rcases hrel with rfl | rfl | rfl
    ·go_wp2_with (at_builtin; refine wpList_append_own_none rfl _ _ 27 rfl 0 9 is0 1 Tryz.underlying27 his _ 0 [] rfl ⟨rfl, .inl ⟨rfl, rfl⟩⟩ rfl ?_)
     go_round
     case rel => exact ⟨rfl, .inr (.inl rfl)⟩
     case measure => simp [intOf]
    ·go_wp2_with (at_builtin; refine wpList_append_own_none rfl _ _ 27 rfl 0 9 is0 1 Tryz.underlying27 his _ 0 [] rfl ⟨rfl, .inl ⟨rfl, rfl⟩⟩ rfl ?_)
     go_round
     case rel => exact ⟨rfl, .inr (.inr rfl)⟩
     case measure => simp [intOf]
    ·go_wp2
     go_ret; exact ⟨rfl, rfl⟩
theorem wO (B b1 : Nat) (w : World) (h : Wt w B) (h1 : w.heap[b1]? = some (.cells #[.int .i64 12, .int .i64 1, .string ⟨#[]⟩, .slice (some ⟨B, 0, none⟩) 2 2] 36 (0, 0))) : Calls Tryz.prog 22 #[.slice none 0 0, .slice (some ⟨b1, 0, none⟩) 1 1] w fun e w' => e = .returned (.tuple #[.slice none 0 0, .int .i64 0]) /\ Below w.heap.size w w' := by
 have hmm := @run_makeMap Tryz.prog
 go_in
 go_wp2_with fail
 go_loopw [6, 21] (fun l i wr => (i = .int .i64 0 \/ i = .int .i64 1) /\ l = .slice none 0 0 /\ Below w.heap.size w wr) (fun _ i _ => 1 - (intOf i).toNat)
 case atStart => exact ⟨.inl rfl, rfl, Below.refl _ _⟩
 case round =>
  obtain ⟨hrel, rfl, hbr⟩ := hrel; rcases hrel with rfl | rfl
  ·have hN2 := h.below hbr
   obtain ⟨c0, c1, c2, c3⟩ := X9 ((hbr.block _ (Z6 h1)).trans h1); have gL3 := ZV wr (.cells #[.int .i64 12, .int .i64 1, .string ⟨#[]⟩, .slice (some ⟨B, 0, none⟩) 2 2] 36); obtain ⟨l0, l1, l2, l3⟩ := X9 gL3; have hN3 := hN2.below (TT B wr); go_wp2_with fail; refine (Jf B _ hN3).mono ?_; rintro e w2 ⟨rfl, hb2⟩; have hb3 := hbr.trans (((Below.refl _ _).alloc (Nat.le_refl _) _ |>.trans (hb2.mono (by simp))).mono hbr.size); clear hb2 c0 c1 c2 c3 hN2 l0 l1 l2 l3 hN3 gL3; go_wp2_with fail; go_roundw
   case rel => exact ⟨.inr rfl, rfl, hb3⟩
   case measure => simp [intOf]
  ·have xG := hbr.alloc (o := .cells #[.slice none 0 0, .slice none 0 0] 27) hbr.size
   have gA := ZV wr (.cells #[.slice none 0 0, .slice none 0 0] 27); have HC := Z9 (GA _ _ gA); clear gA h h1; go_wp2_with fail; refine HC.out.mono ?_; rintro e w' ⟨rfl, rfl⟩; go_wp2_with fail; go_loop [34] (fun i => i = .int .i64 0) (fun _ => 0)
   case atStart => rfl
   case round =>
    subst hrel; go_wp2_with fail; refine (Br _).mono ?_; rintro e w' ⟨rfl, rfl⟩; have Rx := xG.alloc (o := .map #[] 0) xG.size; go_wp2_with fail; go_loop [51] (fun i => i = .int .i64 0) (fun _ => 0)
    case atStart => rfl
    case round =>
     subst hrel; go_wp2_with fail; go_loop [13, 60] (fun o i => o = .slice none 0 0 /\ i = .int .i64 0) (fun _ _ => 0)
     case atStart => exact ⟨rfl, rfl⟩
     case round =>
      obtain ⟨rfl, rfl⟩ := hrel; go_wp2; go_ret2; exact ⟨rfl, Rx⟩
theorem wN (b : UInt8) : Uv b = (((b.toNat : Int) == 10) || RV (b.toNat : Int)) := by
 rw [show ((b.toNat : Int) == 10) = (b == 10) from GK b 10 (by decide)]
 unfold Uv RV; congr 2 <;> (apply decide_eq_decide.2; omega)
theorem Gz (s : ByteArray) (k : Nat) (h : k < s.size) (ha : (s.data.toList.take k).all Uv = true) (hv : Uv s[k] = true) : (s.data.toList.take (k + 1)).all Uv = true := by
 rw [NP s k h, List.all_append, ha]; simp [hv]
def SY (s : ByteArray) : Bool := s.data.toList.all Uv
theorem Bq (s : ByteArray) (k : Nat) (h : k < s.size) (hv : Uv s[k] = false) : SY s = false := by
 unfold SY; rw [List.all_eq_false]
 exact ⟨s[k], by simp [ByteArray.getElem_eq_getElem_data], by simp [hv]⟩
theorem zT (s : ByteArray) (w : World) (hs : s.size <= 16384) : Calls Tryz.prog 57 #[.string s] w fun e w' => e = .returned (.bool (SY s)) /\ w = w' := by
 go_in
 go_wp2_with fail
 go_loop [3] (fun i => ∃ k : Nat, k <= s.size /\ i = .int .i64 k /\ Hid ((s.data.toList.take k).all Uv = true)) (fun i => s.size - (intOf i).toNat)
 case atStart => exact ⟨0, Nat.zero_le _, rfl, rfl⟩
 case round =>
  obtain ⟨k, hk, rfl, hall⟩ := hrel; by_cases hlt : k < s.size
  ·obtain ⟨u0, u1⟩ := ub s[k]
   have hv := wN s[k]; have Hn := Z9 (Gz s k hlt hall.out); have Hh := Z9 (Bq s k hlt); by_cases h1 : (s[k].toNat : Int) < 32
   ·have h1' : ((s[k].toNat : Int) < 32) = True := eq_true h1
    cases h10 : ((s[k].toNat : Int) == 10)
    ·have hb : Hid (SY s = false) := Hh.out (by rw [hv, h10]; unfold RV; rw [YR (by omega)]; rfl)
     clear hv h1; go_wp2; go_ret; exact ⟨by rw [hb.out]; rfl, rfl⟩
    ·have hN : Hid ((s.data.toList.take (k + 1)).all Uv = true) := Hn.out (by rw [hv, h10]; rfl)
     clear hv h1; go_wp2_with fail; go_round
     case rel => exact ⟨k + 1, by omega, by go_num, hN⟩
     case measure => simp [intOf]; omega
   ·have h1' : ((s[k].toNat : Int) < 32) = False := eq_false h1
    by_cases h2 : 126 < (s[k].toNat : Int)
    ·have h2' : (126 < (s[k].toNat : Int)) = True := eq_true h2
     cases h10 : ((s[k].toNat : Int) == 10)
     ·have hb : Hid (SY s = false) := Hh.out (by rw [hv, h10]; unfold RV; rw [YR (show ¬ (s[k].toNat : Int) <= 126 by omega), Bool.and_false]; rfl)
      clear hv h1 h2; go_wp2; go_ret; exact ⟨by rw [hb.out]; rfl, rfl⟩
     ·exfalso; rw [beq_iff_eq] at h10; omega
    ·have h2' : (126 < (s[k].toNat : Int)) = False := eq_false h2
     have hN : Hid ((s.data.toList.take (k + 1)).all Uv = true) := Hn.out (by rw [hv]; unfold RV; rw [decide_eq_true (show 32 <= (s[k].toNat : Int) by omega), decide_eq_true (show (s[k].toNat : Int) <= 126 by omega)]; simp); clear hv h1 h2; go_wp2_with fail; go_round
     case rel => exact ⟨k + 1, by omega, by go_num, hN⟩
     case measure => simp [intOf]; omega
  ·have ha : Hid (SY s = true) := by
    show _ = _
    have := hall.out; rw [List.take_of_length_le (by simp; omega)] at this; exact this
   go_wp2; go_ret; exact ⟨by rw [ha.out]; rfl, rfl⟩
theorem Gy (s : ByteArray) (w : World) : Calls Tryz.prog 27 #[.string s] w fun e w' => e = .returned (.bool (VJ s)) /\ w = w' := by
 by_cases hs : s.size <= 16384
 ·have HP := Z9 (zT s w hs)
  have hq : Hid (VJ s = SY s) := by show _ = _; unfold VJ; rw [decide_eq_true hs]; rfl
  go_in; go_wp2_with fail; refine HP.out.mono ?_; rintro e w' ⟨rfl, rfl⟩; go_wp2; go_ret; exact ⟨by rw [hq.out]; rfl, rfl⟩
 ·have hq : Hid (VJ s = false) := by show _ = _; unfold VJ; rw [YR hs]; rfl
  go_in; go_wp2; go_ret; exact ⟨by rw [hq.out]; rfl, rfl⟩
end Go.Proofs.YtbcfdebdikgijaaGreatDoor
