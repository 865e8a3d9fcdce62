/- Part of the proof; its texts: Eo1 Eo2 Eo3. -/
import Derived.Test.YtbcfdebdikgijaaGreatDoorS22
set_option maxRecDepth 100000
set_option linter.unusedVariables false
set_option linter.unusedSimpArgs false
set_option maxHeartbeats 4000000
namespace Go.Proofs.YtbcfdebdikgijaaGreatDoor
open Go Go.RowKit
def EA (x : Z0) : List Value := [.int .i64 x.op, .int .i64 x.n, .string x.s, .slice none 0 0, x.lv]
def X7 (l : List Z0) : List Value := l.flatMap EA
theorem Oc (l : List Z0) (x : Z0) : X7 (l ++ [x]) = X7 l ++ EA x := by simp [X7]
theorem KT (l : List Z0) : (X7 l).length = l.length * 5 := by
 induction l with
 | nil => rfl
 | cons x l ih => rw [show X7 (x :: l) = EA x ++ X7 l from rfl, List.length_append, ih]; simp [EA]; omega
theorem KS : ∀ (l : List Z0) (k : Nat), k < l.length -> (X7 l).getD (k * 5) undef = .int .i64 (l.getD k default).op /\ (X7 l).getD (k * 5 + 1) undef = .int .i64 (l.getD k default).n /\ (X7 l).getD (k * 5 + 2) undef = .string (l.getD k default).s /\ (X7 l).getD (k * 5 + 3) undef = .slice none 0 0 /\ (X7 l).getD (k * 5 + 4) undef = (l.getD k default).lv
 | [], k, h => by simp at h
 | x :: l, 0, _ => by simp [X7, EA]
 | x :: l, k + 1, h => by
   have ih := KS l k (by simpa using h); have e : X7 (x :: l) = [.int .i64 x.op, .int .i64 x.n, .string x.s, .slice none 0 0, x.lv] ++ X7 l := rfl; have g : ∀ j, (X7 (x :: l)).getD (j + 5) undef = (X7 l).getD j undef := fun j => by
    rw [e]; simp [List.getD]
   have e1 : (k + 1) * 5 = k * 5 + 5 := by omega
   refine ⟨?_, ?_, ?_, ?_, ?_⟩
   ·rw [e1, g]; exact ih.1
   ·rw [show (k + 1) * 5 + 1 = k * 5 + 1 + 5 by omega, g]; exact ih.2.1
   ·rw [show (k + 1) * 5 + 2 = k * 5 + 2 + 5 by omega, g]; exact ih.2.2.1
   ·rw [show (k + 1) * 5 + 3 = k * 5 + 3 + 5 by omega, g]; exact ih.2.2.2.1
   ·rw [show (k + 1) * 5 + 4 = k * 5 + 4 + 5 by omega, g]; exact ih.2.2.2.2
def Kg (lo : Nat) (r : Option Nat) (w : World) (v : Value) (len : Nat) (xs : List Value) : Prop :=
 ∃ (a : Option Addr) (c : Nat), v = .slice a len c /\ len <= c /\ (0 < len -> ∃ b off, a = some ⟨b, off, none⟩ /\ b < w.heap.size /\ lo <= b /\ r ≠ some b /\ (∃ cur, w.heap[b]? = some (.cells cur 43 (0, 0))) /\ ∀ j, j < xs.length -> w.cell? ⟨b, off + j, none⟩ = some (xs.getD j undef))
inductive Pm (lo : Nat) (r : Option Nat) (w : World) : Z0 -> Prop
 | mk {op n : Int} {s : ByteArray} {lv : Value} {l : List Z0} : Kg lo r w lv l.length (X7 l) -> l.length <= 20000 -> (∀ y ∈ l, Pm lo r w y) -> Pm lo r w (.mk op n s lv l)
theorem Pm.parts {lo : Nat} {r : Option Nat} {w : World} {op n : Int} {s : ByteArray} {lv : Value} {l : List Z0} (h : Pm lo r w (.mk op n s lv l)) : Kg lo r w lv l.length (X7 l) /\ l.length <= 20000 /\ ∀ y ∈ l, Pm lo r w y := by
 cases h with
 | mk h1 h2 h3 => exact ⟨h1, h2, h3⟩
theorem Kg.keep {lo lo' : Nat} {r r' : Option Nat} {w w' : World} {v : Value} {n : Nat} {xs : List Value} (h : Kg lo r w v n xs) (hs : w.heap.size <= w'.heap.size) (hk : ∀ b, b < w.heap.size -> lo <= b -> r ≠ some b -> w'.heap[b]? = w.heap[b]?) (hlo : lo' <= lo) (hr : ∀ b, b < w.heap.size -> lo <= b -> r ≠ some b -> r' ≠ some b) : Kg lo' r' w' v n xs := by
 obtain ⟨a, c, hv, hlc, hl⟩ := h
 refine ⟨a, c, hv, hlc, fun hne => ?_⟩
 obtain ⟨b, off, ha, hb, hlb, hm, ⟨cur, hcur⟩, hc⟩ := hl hne
 have e := hk b hb hlb hm
 exact ⟨b, off, ha, Nat.lt_of_lt_of_le hb hs, Nat.le_trans hlo hlb, hr b hb hlb hm, ⟨cur, e.trans hcur⟩, fun j hj => by rw [<- hc j hj]; unfold World.cell?; rw [e]⟩
theorem Pm.keep {lo lo' : Nat} {r r' : Option Nat} {w w' : World} {x : Z0} (h : Pm lo r w x) (hs : w.heap.size <= w'.heap.size) (hk : ∀ b, b < w.heap.size -> lo <= b -> r ≠ some b -> w'.heap[b]? = w.heap[b]?) (hlo : lo' <= lo) (hr : ∀ b, b < w.heap.size -> lo <= b -> r ≠ some b -> r' ≠ some b) : Pm lo' r' w' x := by
 induction h with
 | mk h1 h2 _ ih => exact .mk (h1.keep hs hk hlo hr) h2 ih
structure Ez (w w' : World) : Prop where
 size : w.heap.size <= w'.heap.size
 blk : ∀ (b : Nat) (cur : Array Value) (t : TypeId), t = 43 \/ t = 9 -> w.heap[b]? = some (.cells cur t (0, 0)) -> w'.heap[b]? = w.heap[b]?
theorem Kg.Ey {lo : Nat} {r : Option Nat} {w w' : World} {v : Value} {n : Nat} {xs : List Value} (h : Kg lo r w v n xs) (k : Ez w w') : Kg lo r w' v n xs := by
 obtain ⟨a, c, hv, hlc, hl⟩ := h
 refine ⟨a, c, hv, hlc, fun hne => ?_⟩
 obtain ⟨b, off, ha, hb, hlb, hm, ⟨cur, hcur⟩, hc⟩ := hl hne
 have e := k.blk b cur _ (.inl rfl) hcur
 exact ⟨b, off, ha, Nat.lt_of_lt_of_le hb k.size, hlb, hm, ⟨cur, e.trans hcur⟩, fun j hj => by rw [<- hc j hj]; unfold World.cell?; rw [e]⟩
theorem Pm.Ey {lo : Nat} {r : Option Nat} {w w' : World} {x : Z0} (h : Pm lo r w x) (k : Ez w w') : Pm lo r w' x := by
 induction h with
 | mk h1 h2 _ ih => exact .mk (h1.Ey k) h2 ih
theorem Pt {B n s : Nat} {w w' : World} {v : Value} {xs : List Value} (h : w.ownsRow B 9 s v n xs) (k : Ez w w') : w'.ownsRow B 9 s v n xs := by
 obtain ⟨h1, h2⟩ := h
 refine ⟨h1, ?_⟩
 rcases h2 with h2 | ⟨g, cap, cur, rfl, hb, hh, hrest⟩
 ·exact .inl h2
 ·exact .inr ⟨g, cap, cur, rfl, hb, (k.blk g cur _ (.inr rfl) hh).trans hh, hrest⟩
theorem Sj {w w' : World} (h : Below w.heap.size w w') : Ez w w' := ⟨h.size, fun b cur t _ hb => h.block b (Z6 hb)⟩
theorem SH (lo : Nat) (r : Option Nat) (w : World) (op n : Int) (s : ByteArray) : Pm lo r w (.mk op n s (.slice none 0 0) []) := .mk ⟨none, 0, rfl, Nat.le_refl _, fun h => by simp at h⟩ (Nat.zero_le _) (fun _ h => by cases h)
theorem KR {lo B : Nat} {r : Option Nat} {w : World} {v : Value} {n : Nat} {xs : List Value} {size : Nat} (h : w.ownsRow B 43 size v n xs) (hB : lo <= B) (hr : v.ownBlock ≠ none -> r ≠ v.ownBlock) : Kg lo r w v n xs := by
 have h' := h
 obtain ⟨_, ⟨rfl, rfl⟩ | ⟨g, cap, cur, rfl, hb, hh, h1, _⟩⟩ := h
 ·exact ⟨none, 0, rfl, Nat.le_refl _, fun h => by omega⟩
 ·refine ⟨_, _, rfl, h1, fun _ => ⟨g, 0, rfl, Z6 hh, by omega, hr (by nofun), ⟨cur, hh⟩, fun j hj => ?_⟩⟩
  have := h'.cells rfl j _ (List.getElem?_eq_getElem hj); rw [Addr.add_lit] at this; rw [this]; simp [List.getD, List.getElem?_eq_getElem hj]
theorem Ao {lo : Nat} {r : Option Nat} {w : World} {v : Value} {l : List Z0} (h : Kg lo r w v l.length (X7 l)) (n : Nat) (hn : n < l.length) :
 ∃ b off c, v = .slice (some ⟨b, off, none⟩) l.length c /\ l.length <= c /\ b < w.heap.size /\ w.cell? ⟨b, off + n * 5, none⟩ = some (.int .i64 (l.getD n default).op) /\ w.cell? ⟨b, off + n * 5 + 1, none⟩ = some (.int .i64 (l.getD n default).n) /\ w.cell? ⟨b, off + n * 5 + 2, none⟩ = some (.string (l.getD n default).s) /\ w.cell? ⟨b, off + n * 5 + 3, none⟩ = some (.slice none 0 0) /\ w.cell? ⟨b, off + n * 5 + 4, none⟩ = some (l.getD n default).lv := by
 obtain ⟨a, c, rfl, hlc, hcell⟩ := h
 obtain ⟨b, off, rfl, hlt, _, _, _, hc⟩ := hcell (by omega)
 obtain ⟨c0, c1, c2, c3, c4⟩ := KS l n hn
 have hlen := KT l
 refine ⟨b, off, c, rfl, hlc, hlt, ?_, ?_, ?_, ?_, ?_⟩
 ·rw [hc (n * 5) (by omega), c0]
 ·rw [Nat.add_assoc, hc (n * 5 + 1) (by omega), c1]
 ·rw [Nat.add_assoc, hc (n * 5 + 2) (by omega), c2]
 ·rw [Nat.add_assoc, hc (n * 5 + 3) (by omega), c3]
 ·rw [Nat.add_assoc, hc (n * 5 + 4) (by omega), c4]
def RB (f : ZT -> Int -> ZT × Int) : List ZT -> Int -> List ZT -> List ZT × Int
 | [], left, acc => (acc, left)
 | x :: r, left, acc => if (f x left).2 < 0 then ([], -1) else RB f r (f x left).2 (acc ++ [(f x left).1])
def Cc (v : ZT) (r : List ZT × Int) : ZT × Int := if r.2 < 0 then (default, -1) else (.mk v.op v.n v.s r.1, r.2)
def UH : Nat -> ZT -> Int -> ZT × Int
 | 0, _, _ => (default, -1)
 | d + 1, v, left => if left <= 0 then (default, -1) else if v.op = 7 then (.mk 7 0 ⟨#[]⟩ [], left - 1) else Cc v (RB (UH d) v.l (left - 1) [])
theorem tJ (f : ZT -> Int -> ZT × Int) (hf : ∀ x left, 0 <= left -> -1 <= (f x left).2 /\ (f x left).2 <= left - 1) : ∀ (l : List ZT) (left : Int) (acc : List ZT), 0 <= left -> -1 <= (RB f l left acc).2 /\ (RB f l left acc).2 <= left
 | [], left, acc, h => ⟨by rw [RB]; simp only; omega, by rw [RB]; exact Int.le_refl _⟩
 | x :: r, left, acc, h => by
   have h1 := hf x left h; rw [RB]; split
   ·exact ⟨Int.le_refl _, by simp only; omega⟩
   ·have := tJ f hf r (f x left).2 (acc ++ [(f x left).1]) (by omega)
    omega
theorem Cb : ∀ (d : Nat) (v : ZT) (left : Int), 0 <= left -> -1 <= (UH d v left).2 /\ (UH d v left).2 <= left - 1
 | 0, v, left, h => ⟨Int.le_refl _, by show (-1 : Int) <= left - 1; omega⟩
 | d + 1, v, left, h => by
   rw [UH]; split
   ·exact ⟨Int.le_refl _, by simp only; omega⟩
   ·split
    ·exact ⟨by simp only; omega, Int.le_refl _⟩
    ·have := tJ (UH d) (Cb d) v.l (left - 1) [] (by omega)
     unfold Cc; split
     ·exact ⟨Int.le_refl _, by simp only; omega⟩
     ·exact this
def tH (r : ZT × Int) (w : World) (e : Ending) (w' : World) : Prop := ∃ y : Z0, e = .returned (.tuple #[.agg (ZN y.op y.n y.s y.lv), .int .i64 r.2]) /\ ZW y = r.1 /\ Pm w.heap.size none w' y /\ w.grownBy w' none
theorem Nl (w : World) {w' : World} (hg : w.grownBy w' none) : tH (default, -1) w (.returned (.tuple #[.agg (ZN 0 0 ⟨#[]⟩ (.slice none 0 0)), .int .i64 (-1)])) w' :=
 ⟨.mk 0 0 ⟨#[]⟩ (.slice none 0 0) [], rfl, XU, SH _ _ _ _ _ _, hg⟩
theorem Ob (x : Z0) (left d : Int) (w : World) (hx : ∃ a c n, x.lv = .slice a n c) (h : left <= 0 \/ d <= 0) :
 Calls Tryz.prog 34 #[Ws x, .int .i64 left, .int .i64 d] w (tH (default, -1) w) := by
 obtain ⟨xo, xn, xs, xv, xl⟩ := x
 obtain ⟨a, c, n, rfl⟩ := hx
 rw [ZE]
 have g0 := Z8 w (.cells #[.int .i64 xo, .int .i64 xn, .string xs, .slice a n c] 94)
 have e0 : (w.alloc (.cells #[.int .i64 xo, .int .i64 xn, .string xs, .slice a n c] 94)).heap.size = w.heap.size + 1 := by simp
 go_in
 go_upto_region 1 with fail
 change Code.wp _ _ _ _ ((w.alloc (.cells #[.int .i64 xo, .int .i64 xn, .string xs, .slice a n c] 94)).alloc (.cells (ZN 0 0 ⟨#[]⟩ (.slice none 0 0)) 43))
 generalize w.alloc (.cells #[.int .i64 xo, .int .i64 xn, .string xs, .slice a n c] 94) = W at *
 have g1 := Z8 W (.cells (ZN 0 0 ⟨#[]⟩ (.slice none 0 0)) 43)
 have n1 := ZF e0 (.cells (ZN 0 0 ⟨#[]⟩ (.slice none 0 0)) 43)
 generalize W.alloc (.cells (ZN 0 0 ⟨#[]⟩ (.slice none 0 0)) 43) = A at *
 have gg := both g0 g1
 have hd : (decide (left <= 0) || decide (d <= 0)) = true := by rcases h with h | h <;> simp [h]
 by_cases hl : left <= 0
 ·go_wp2_with (refine Zc rfl 43 _ _ rfl (w.heap.size + 1) (ZN 0 0 ⟨#[]⟩ (.slice none 0 0)) rfl rfl 43 _ n1 YT rfl (ZO _ rfl) ?_)
  have q2 := Zd _ _ _ (ZN 0 0 ⟨#[]⟩ (.slice none 0 0)) _ _ n1; exact Y4 (X4 (p := 6) (u := 7) rfl _ _ (w.heap.size + 1) 43 _ (0, 0) _ rfl q2 Tryz.underlying43 YT) rfl (Nl w (ZQ gg (by omega) _))
 ·have hd2 : d <= 0 := by omega
  go_wp2_with (refine Zc rfl 43 _ _ rfl (w.heap.size + 1) (ZN 0 0 ⟨#[]⟩ (.slice none 0 0)) rfl rfl 43 _ n1 YT rfl (ZO _ rfl) ?_); have q2 := Zd _ _ _ (ZN 0 0 ⟨#[]⟩ (.slice none 0 0)) _ _ n1; exact Y4 (X4 (p := 6) (u := 7) rfl _ _ (w.heap.size + 1) 43 _ (0, 0) _ rfl q2 Tryz.underlying43 YT) rfl (Nl w (ZQ gg (by omega) _))
theorem Ew (x : Z0) (left d : Int) (w : World) (hx : ∃ a c n, x.lv = .slice a n c) (h : 0 < left) (hl2 : left <= 20000) (hd : 0 < d) (h7 : x.op = 7) :
 Calls Tryz.prog 34 #[Ws x, .int .i64 left, .int .i64 d] w (tH (.mk 7 0 ⟨#[]⟩ [], left - 1) w) := by
 obtain ⟨xo, xn, xs, xv, xl⟩ := x
 obtain ⟨a, c, n, rfl⟩ := hx
 obtain rfl : xo = 7 := h7
 rw [ZE]
 have g0 := Z8 w (.cells #[.int .i64 7, .int .i64 xn, .string xs, .slice a n c] 94)
 have n0 := Zn w (.cells #[.int .i64 7, .int .i64 xn, .string xs, .slice a n c] 94)
 have e0 : (w.alloc (.cells #[.int .i64 7, .int .i64 xn, .string xs, .slice a n c] 94)).heap.size = w.heap.size + 1 := by simp
 have w1 : IntKind.i64.wrap (left - 1) = left - 1 := YJ _ (by omega) (by omega)
 go_in
 go_upto_region 1 with fail
 change Code.wp _ _ _ _ ((w.alloc (.cells #[.int .i64 7, .int .i64 xn, .string xs, .slice a n c] 94)).alloc (.cells (ZN 0 0 ⟨#[]⟩ (.slice none 0 0)) 43))
 generalize w.alloc (.cells #[.int .i64 7, .int .i64 xn, .string xs, .slice a n c] 94) = W at *
 have g1 := Z8 W (.cells (ZN 0 0 ⟨#[]⟩ (.slice none 0 0)) 43)
 have n1 := ZF e0 (.cells (ZN 0 0 ⟨#[]⟩ (.slice none 0 0)) 43)
 generalize W.alloc (.cells (ZN 0 0 ⟨#[]⟩ (.slice none 0 0)) 43) = A at *
 obtain ⟨c0, c1, c2, c3⟩ := YV ((g1.block _ (Z6 n0) (by nofun)).trans n0)
 have gg := both g0 g1
 have hl1 : ¬ left <= 0 := by omega
 have hd1 : ¬ d <= 0 := by omega
 go_wp2_with (refine Zc rfl 43 _ _ rfl (w.heap.size + 1) (ZN 7 0 ⟨#[]⟩ (.slice none 0 0)) rfl rfl 43 _ n1 YT rfl (ZO _ rfl) ?_)
 have q2 := Zd _ _ _ (ZN 7 0 ⟨#[]⟩ (.slice none 0 0)) _ _ n1
 exact Y4 (X4 (p := 6) (u := 7) rfl _ _ (w.heap.size + 1) 43 _ (0, 0) _ rfl q2 Tryz.underlying43 YT) rfl ⟨.mk 7 0 ⟨#[]⟩ (.slice none 0 0) [], rfl, by rw [Y2, stripL], SH _ _ _ _ _ _, ZQ gg (by omega) _⟩
theorem drop_one {α : Type} (d : α) (l : List α) (k : Nat) (h : k < l.length) : l.drop k = l.getD k d :: l.drop (k + 1) := by
 rw [List.drop_eq_getElem_cons h]; simp [List.getD, List.getElem?_eq_getElem h]
theorem yG {a b c d : World} {r : Option Nat} (h : a.grownBy b none) (k : b.grownBy c none) (g : c.grownBy d r) (hr : ∀ q, r = some q -> a.heap.size <= q) : a.grownBy d none :=
 have e := both h k
 ⟨g.os.trans e.os, g.tape.trans e.tape, g.output.trans e.output, Nat.le_trans e.size g.size, fun q hq _ => (g.block q (Nat.lt_of_lt_of_le hq e.size) (fun e => by have := hr q e.symm; omega)).trans (e.block q hq (by nofun))⟩
structure OL (d : Nat) (w : World) (x : Z0) (left : Int) (k : Nat) (acc : List Z0) (lk : Int) (ov : Value) (wr : World) : Prop where
 kK : wr.heap[w.heap.size]? = some (.cells #[.int .i64 x.op, .int .i64 x.n, .string x.s, x.lv] 94 (0, 0))
 RI : wr.heap[w.heap.size + 1]? = some (.cells (ZN 0 0 ⟨#[]⟩ (.slice none 0 0)) 43 (0, 0))
 Ib : wr.heap[w.heap.size + 1 + 1]? = some (.cells (ZN x.op x.n x.s ov) 43 (0, 0))
 own : wr.ownsRow (w.heap.size + 1 + 1 + 1) 43 5 ov acc.length (X7 acc)
 kids : ∀ y ∈ acc, Pm (w.heap.size + 1 + 1 + 1) ov.ownBlock wr y
 grown : w.grownBy wr none
 eq : RB (UH d) ((x.l.drop k).map ZW) lk (acc.map ZW) = RB (UH d) (x.l.map ZW) (left - 1) []
 len : acc.length = k
 sum : (k : Int) + lk <= left - 1
 pos : 0 <= lk
 le : k <= x.l.length
theorem Ev : ∀ (d : Nat), d <= 400 -> ∀ (M : Nat -> Prop) (x : Z0) (w : World) (left : Int), R9 M w x -> 0 <= left -> left <= 20000 ->
 Calls Tryz.prog 34 #[Ws x, .int .i64 left, .int .i64 (d : Int)] w (tH (UH d (ZW x) left) w) := by
 intro d
 induction d with
 | zero =>
   intro _ M x w left hx _ _; cases x with
   | mk xo xn xs xv xl =>
     obtain ⟨a, c, rfl, _⟩ := hx.parts.1; exact Ob _ _ _ _ ⟨_, _, _, rfl⟩ (.inr (Int.le_refl _))
 | succ d IH =>
   intro hd M x w left hx h0 h1; obtain ⟨xo, xn, xs, xv, xl⟩ := x; obtain ⟨xa, xc, rfl, _⟩ := hx.parts.1; rw [UH]; by_cases hl : left <= 0
   ·rw [ZY hl]
    exact Ob _ _ _ _ ⟨_, _, _, rfl⟩ (.inl hl)
   rw [Z7 hl]; by_cases h7 : xo = 7
   ·rw [ZY (by rw [YF]; exact h7)]
    exact Ew _ _ _ _ ⟨_, _, _, rfl⟩ (by omega) h1 (by omega) h7
   rw [Z7 (by rw [YF]; exact h7)]; have IH' := Z9 (IH (by omega)); have HX := Z9 hx; have hm := hx.parts.2.1; obtain ⟨Q, hQ⟩ : ∃ Q, Cc (ZW (.mk xo xn xs (.slice xa xl.length xc) xl)) (RB (UH d) (ZW (.mk xo xn xs (.slice xa xl.length xc) xl)).l (left - 1) []) = Q := ⟨_, rfl⟩; rw [hQ]; have HQ := Z9 hQ; rw [ZE]; have g0 := Z8 w (.cells #[.int .i64 xo, .int .i64 xn, .string xs, .slice xa xl.length xc] 94); have n0 := Zn w (.cells #[.int .i64 xo, .int .i64 xn, .string xs, .slice xa xl.length xc] 94); have e0 : (w.alloc (.cells #[.int .i64 xo, .int .i64 xn, .string xs, .slice xa xl.length xc] 94)).heap.size = w.heap.size + 1 := by simp
   have w1 : IntKind.i64.wrap (left - 1) = left - 1 := YJ _ (by omega) (by omega); have w2 : IntKind.i64.wrap (((d + 1 : Nat) : Int) - 1) = (d : Int) := by rw [YJ _ (by omega) (by omega)]; omega
   have hd1 : ¬ ((d + 1 : Nat) : Int) <= 0 := by omega
   have h7b : (xo == 7) = false := Zt h7; obtain ⟨ii0, hii, TI, TH, TG⟩ := YQ Ou; generalize ((d + 1 : Nat) : Int) = D1 at *; clear hx hQ IH; go_in; go_upto_region 1 with fail; change Code.wp _ _ _ _ ((w.alloc (.cells #[.int .i64 xo, .int .i64 xn, .string xs, .slice xa xl.length xc] 94)).alloc (.cells (ZN 0 0 ⟨#[]⟩ (.slice none 0 0)) 43)); generalize w.alloc (.cells #[.int .i64 xo, .int .i64 xn, .string xs, .slice xa xl.length xc] 94) = W at *; have g1 := Z8 W (.cells (ZN 0 0 ⟨#[]⟩ (.slice none 0 0)) 43); have n1 := ZF e0 (.cells (ZN 0 0 ⟨#[]⟩ (.slice none 0 0)) 43); have e1 : (W.alloc (.cells (ZN 0 0 ⟨#[]⟩ (.slice none 0 0)) 43)).heap.size = w.heap.size + 1 + 1 := by simp [e0]
   generalize W.alloc (.cells (ZN 0 0 ⟨#[]⟩ (.slice none 0 0)) 43) = A at *; have n2 := (g1.block _ (Z6 n0) (by nofun)).trans n0; obtain ⟨c0, c1, c2, c3⟩ := YV n2; have gg := both g0 g1; go_upto_region 7 with fail; have n3 := ZF e1 (.cells (ZN xo xn xs (.slice none 0 0)) 43); have g3 := Z8 A (.cells (ZN xo xn xs (.slice none 0 0)) 43); change Code.wp _ _ _ _ (A.alloc (.cells (ZN xo xn xs (.slice none 0 0)) 43)); generalize A.alloc (.cells (ZN xo xn xs (.slice none 0 0)) 43) = B at *
   have HOL : Hid (OL d w (.mk xo xn xs (.slice xa xl.length xc) xl) left 0 [] (left - 1) (.slice none 0 0) B) := Z9
    ⟨(g3.block _ (Z6 n2) (by nofun)).trans n2, (g3.block _ (Z6 n1) (by nofun)).trans n1, n3, World.ownsRow_nil _ _ _ _, (fun _ h => by cases h), both gg g3, by rw [List.drop_zero]; rfl, rfl, by omega, by omega, Nat.zero_le _⟩
   clear c0 c1 c2 c3 n0 n1 n2 n3 g0 g1 g3 gg e0 e1 w1; go_wp2_with fail; go_loopw [1, 9] (fun v1 v9 wr => ∃ (k : Nat) (acc : List Z0) (lk : Int) (ov : Value), v9 = .int .i64 k /\ v1 = .int .i64 lk /\ Hid (OL d w (.mk xo xn xs (.slice xa xl.length xc) xl) left k acc lk ov wr)) (fun _ v9 _ => xl.length - (intOf v9).toNat)
   case atStart => exact ⟨0, [], left - 1, .slice none 0 0, rfl, rfl, HOL⟩
   case round =>
    obtain ⟨k, acc, lk, ov, rfl, rfl, HL⟩ := hrel; obtain ⟨c0, c1, c2, c3⟩ := YV HL.out.kK; simp only [Z0.op, Z0.n, Z0.s, Z0.lv] at c0 c1 c2 c3; have hk := HL.out.le; simp only [Z0.l] at hk; have kJ := Z9 HL.out.len; have hsum := HL.out.sum; have hpos := HL.out.pos; have heq := HL.out.eq; simp only [Z0.l] at heq; by_cases hkl : k < xl.length
    ·have hvr := (HX.out.kept (ZG HL.out.grown)).parts
     obtain ⟨b, off, c', hv, _, _, _, l0, l1, l2, l3⟩ := Vp hvr.1 k hkl; obtain ⟨rfl, _, rfl⟩ := Value.slice.inj hv; have hym := hvr.2.2 _ (Zr default xl k hkl); rw [drop_one default xl k hkl, List.map_cons, RB] at heq; clear hv hvr; generalize xl.getD k default = y at *; have hb2 := Cb d (ZW y) lk hpos; have HC := Z9 (IH'.out M y wr lk hym hpos (by omega)); obtain ⟨y0, y1, y2, y3, y4⟩ := y; obtain ⟨za, zc, rfl, _⟩ := hym.parts.1; simp only [Z0.op, Z0.n, Z0.s, Z0.lv] at l0 l1 l2 l3; rw [ZE] at HC; generalize UH d (ZW (.mk y0 y1 y2 (.slice za y4.length zc) y4)) lk = r2 at *; clear hym; have hkn : (k : Int) < ((xl.length : Nat) : Int) := by omega
     have W9 := Z9 heq; clear heq; by_cases hn : r2.2 < 0
     ·have hq := W9.out
      rw [ZY hn] at hq; have hQ := HQ.out; rw [Ub] at hQ; simp only [Z0.l] at hQ; rw [<- hq] at hQ; have hQ2 : (default, -1) = Q := hQ; subst hQ2; have hz := HL.out.grown; go_wp2_with (first
       | (go_at_call 34; refine HC.out.mono ?_; rintro e w4 ⟨⟨yo, yn, ys, yv, yl⟩, rfl, hs2, hi2, hg2⟩; obtain ⟨ya, yq, rfl, _⟩ := hi2.parts.1; simp only [ZN, Z0.op, Z0.n, Z0.s, Z0.lv]; have n5 := ((Z8 w4 (.cells #[.int .i64 yo, .int .i64 yn, .string ys, .slice none 0 0, .slice ya yl.length yq] 43)).block _ (Z6 ((hg2.block _ (Z6 HL.out.RI) (by nofun)).trans HL.out.RI)) (by nofun)).trans ((hg2.block _ (Z6 HL.out.RI) (by nofun)).trans HL.out.RI))
       | (refine Zc rfl 43 _ _ rfl (w.heap.size + 1) (ZN 0 0 ⟨#[]⟩ (.slice none 0 0)) rfl rfl 43 _ n5 YT rfl (ZO _ rfl) ?_))
      have q2 := Zd _ _ _ (ZN 0 0 ⟨#[]⟩ (.slice none 0 0)) _ _ n5; exact Y4 (X4 (p := 6) (u := 7) rfl _ _ (w.heap.size + 1) 43 _ (0, 0) _ rfl q2 Tryz.underlying43 YT) rfl (Nl w (ZQ (both hz (both hg2 (Z8 w4 (.cells #[.int .i64 yo, .int .i64 yn, .string ys, .slice none 0 0, .slice ya yl.length yq] 43)))) (by omega) _))
     ·have hq := W9.out
      rw [Z7 hn] at hq; have HQ2 := Z9 hq; clear hq W9; go_upto_region 11 with (go_at_call 34; refine HC.out.mono ?_; rintro e w4 ⟨⟨yo, yn, ys, yv, yl⟩, rfl, hs2, hi2, hg2⟩; obtain ⟨ya, yq, rfl, _⟩ := hi2.parts.1; simp only [ZN, Z0.op, Z0.n, Z0.s, Z0.lv]); have g5 := Z8 w4 (.cells #[.int .i64 yo, .int .i64 yn, .string ys, .slice none 0 0, .slice ya yl.length yq] 43); have n5 := Zn w4 (.cells #[.int .i64 yo, .int .i64 yn, .string ys, .slice none 0 0, .slice ya yl.length yq] 43); have g45 := both hg2 g5; have hz4 := hg2.size; have hz5 : (w4.alloc (.cells #[.int .i64 yo, .int .i64 yn, .string ys, .slice none 0 0, .slice ya yl.length yq] 43)).heap.size = w4.heap.size + 1 := by simp
      obtain ⟨oa, oc, rfl⟩ := Yg HL.out.own; have ho5 := Zx HL.out.own g45 (by nofun); have hol := Zw HL.out.own; have b0 := (g45.block _ (Z6 HL.out.kK) (by nofun)).trans HL.out.kK; have b1 := (g45.block _ (Z6 HL.out.RI) (by nofun)).trans HL.out.RI; have b2 := (g45.block _ (Z6 HL.out.Ib) (by nofun)).trans HL.out.Ib; have CK := Z6 HL.out.Ib; have hi4 := hi2; have hK4 : ∀ q, q < wr.heap.size -> (w4.alloc (.cells #[.int .i64 yo, .int .i64 yn, .string ys, .slice none 0 0, .slice ya yl.length yq] 43)).heap[q]? = wr.heap[q]? := fun q hq => g45.block q hq (by nofun)
      have hK5 : ∀ q, q < w4.heap.size -> (w4.alloc (.cells #[.int .i64 yo, .int .i64 yn, .string ys, .slice none 0 0, .slice ya yl.length yq] 43)).heap[q]? = w4.heap[q]? := fun q hq => g5.block q hq (by nofun)
      have hgw := both HL.out.grown g45; generalize w4.alloc (.cells #[.int .i64 yo, .int .i64 yn, .string ys, .slice none 0 0, .slice ya yl.length yq] 43) = D at *; obtain ⟨q0, q1, q2, q3, q4⟩ := Yh n5; have p4 := (Zk _ _ 4 _ _ _ b2).trans (show _ = some (Value.slice oa acc.length oc) from rfl); have p5 := Lib.frozen_of_heap b2 4; have HO5 := Z9 ho5; have HB := Z9 (And.intro b0 (And.intro b1 b2)); have HI4 := Z9 hi4; have HG := Z9 hgw; have HS2 := Z9 hs2; have HK := Z9 (And.intro hK4 hK5); have pI := Z9 hol; have HZ5 := Z9 hz5; clear hz5; clear b0 b1 b2 ho5 hi2 hi4 hgw hs2 hK4 hK5 g5 g45 hg2 hol; go_upto_region 13 with fail; go_wp2_with (at_builtin; refine wpList_append_lies _ rfl _ _ 41 rfl (w.heap.size + 1 + 1 + 1) 43 ii0 (.agg #[.int .i64 0, .int .i64 0, .string ⟨#[]⟩, .slice none 0 0, .slice none 0 0]) 5 80 Tryz.underlying41 hii TI TH TG rfl (by decide) (.slice oa acc.length oc) acc.length (X7 acc) rfl (HO5.out.alloc _) ⟨D.heap.size, 0, none⟩ 1 1 [.int .i64 yo, .int .i64 yn, .string ys, .slice none 0 0, .slice ya yl.length yq] rfl rfl ?f1 ?f2 (by decide) ?f3 ?f4 ?f5 _ rfl ?_)
      try case f1 => exact World.news_of_block (cs := #[.int .i64 yo, .int .i64 yn, .string ys, .slice none 0 0, .slice ya yl.length yq]) (ZV D _)
      case f2 => exact ⟨rfl, rfl, rfl, rfl, rfl⟩
      try case f3 => have := kJ.out; unfold maxLen; omega
      try case f4 => have := kJ.out; omega
      case f5 => have := HZ5.out; simp; omega
      intro g cap w6 hown6 Y6 Sz Ot; have hz5 := HZ5.out; have hat : (Value.slice oa acc.length oc).ownBlock = some g \/ D.heap.size <= g := by
       rcases Sz with e | e
       ·exact .inl e
       ·exact .inr (by first | omega | (rw [e]; simp))
      have g7 := Z8 D (.cells #[.int .i64 yo, .int .i64 yn, .string ys, .slice none 0 0, .slice ya yl.length yq] 43); have hB : ∀ q, q < D.heap.size -> (Value.slice oa acc.length oc).ownBlock ≠ some q -> w6.heap[q]? = D.heap[q]? := fun q hq hne => (Y6.block q (by have := g7.size; omega) (fun e => hne e.symm)).trans (g7.block q hq (by nofun))
      have hlow : ∀ q, q < w.heap.size + 1 + 1 + 1 -> (Value.slice oa acc.length oc).ownBlock ≠ some q := fun q hq e => by have := (pI.out q e).1; omega
      have hzD : D.heap.size <= w6.heap.size := by have := g7.size; have := Y6.size; omega
      have r0 := (hB _ (by omega) (hlow _ (by omega))).trans HB.out.1; have r1 := (hB _ (by omega) (hlow _ (by omega))).trans HB.out.2.1; have r2' := (hB _ (by omega) (hlow _ (by omega))).trans HB.out.2.2; have gs := Zv w6 (w.heap.size + 1 + 1) 4 (.slice (some ⟨g, 0, none⟩) (acc.length + 1) cap); have t8 : (w6.setCell ⟨w.heap.size + 1 + 1, 4, none⟩ (.slice (some ⟨g, 0, none⟩) (acc.length + 1) cap)).heap[w.heap.size + 1 + 1]? = some (.cells (ZN xo xn xs (.slice (some ⟨g, 0, none⟩) (acc.length + 1) cap)) 43 (0, 0)) := ZL (i := 4) r2' (.slice (some ⟨g, 0, none⟩) (acc.length + 1) cap); have nE := Zx hown6 gs (fun q hq e => by have := (Zw hown6 _ e).1; cases hq; omega); have hg7 : w.grownBy (w6.setCell ⟨w.heap.size + 1 + 1, 4, none⟩ (.slice (some ⟨g, 0, none⟩) (acc.length + 1) cap)) none := by
       have h6 : w.grownBy w6 none := yG HG.out g7 Y6 (fun q hq => by have := (pI.out q hq).1; omega); exact U2 h6 gs (by omega)
      have hC : ∀ q, q < D.heap.size -> w.heap.size + 1 + 1 + 1 <= q -> (Value.slice oa acc.length oc).ownBlock ≠ some q -> (w6.setCell ⟨w.heap.size + 1 + 1, 4, none⟩ (.slice (some ⟨g, 0, none⟩) (acc.length + 1) cap)).heap[q]? = D.heap[q]? := fun q hq hl hne => (gs.block q (by omega) (fun e => by have := Option.some.inj e; omega)).trans (hB q hq hne)
      have hz7 : D.heap.size <= (w6.setCell ⟨w.heap.size + 1 + 1, 4, none⟩ (.slice (some ⟨g, 0, none⟩) (acc.length + 1) cap)).heap.size := Nat.le_trans hzD gs.size; have hnew : Pm (w.heap.size + 1 + 1 + 1) (some g) (w6.setCell ⟨w.heap.size + 1 + 1, 4, none⟩ (.slice (some ⟨g, 0, none⟩) (acc.length + 1) cap)) (.mk yo yn ys (.slice ya yl.length yq) yl) :=
       HI4.out.keep (by omega) (fun q hq hl _ => (hC q (by omega) (by omega) (fun e => by have := (pI.out q e).2; omega)).trans (HK.out.2 q hq)) (by omega) (fun q hq hl _ e => by
        have e2 := Option.some.inj e; rcases hat with h | h
        ·have := (pI.out g h).2; omega
        ·omega)
      have nD : ∀ z ∈ acc, Pm (w.heap.size + 1 + 1 + 1) (some g) (w6.setCell ⟨w.heap.size + 1 + 1, 4, none⟩ (.slice (some ⟨g, 0, none⟩) (acc.length + 1) cap)) z := fun z hz =>
       (HL.out.kids z hz).keep (by omega) (fun q hq hl hne => (hC q (by omega) hl hne).trans (HK.out.1 q hq)) (Nat.le_refl _) (fun q hq hl hne e => by
         have e2 := Option.some.inj e; rcases hat with h | h
         ·exact hne (e2 ▸ h)
         ·omega)
      have Ca : Hid (OL d w (.mk xo xn xs (.slice (some ⟨b, off, none⟩) xl.length xc) xl) left (k + 1) (acc ++ [.mk yo yn ys (.slice ya yl.length yq) yl]) r2.2 (.slice (some ⟨g, 0, none⟩) (acc.length + 1) cap) (w6.setCell ⟨w.heap.size + 1 + 1, 4, none⟩ (.slice (some ⟨g, 0, none⟩) (acc.length + 1) cap))) := Z9
       ⟨(gs.block _ (by omega) (fun e => by have := Option.some.inj e; omega)).trans r0, (gs.block _ (by omega) (fun e => by have := Option.some.inj e; omega)).trans r1, t8, by rw [Oc, List.length_append, List.length_singleton]; exact nE,
        fun z hz => by
         rcases List.mem_append.1 hz with h | h
         ·exact nD z h
         ·rw [List.mem_singleton.1 h]; exact hnew,
        hg7, by rw [List.map_append, List.map_cons, List.map_nil, HS2.out]; exact HQ2.out, by rw [List.length_append, List.length_singleton, kJ.out], by omega, by omega, hkl⟩
      have x4 := (Zk _ _ 4 _ _ _ r2').trans (show _ = some (Value.slice oa acc.length oc) from rfl); have x5 := Lib.frozen_of_heap r2' 4; clear p4 p5 q0 q1 q2 q3 q4 r0 r1 r2' gs t8 nE hg7 hC hnew nD hB hlow hown6 Y6; have hwk : IntKind.i64.wrap ((k : Int) + 1) = ((k + 1 : Nat) : Int) := by rw [YJ _ (by omega) (by omega)]; omega
      go_wp2_with fail; go_roundw
      case rel => exact ⟨k + 1, _, r2.2, _, by go_num, rfl, Ca⟩
      case measure => simp [intOf]; omega
    ·obtain rfl : k = xl.length := by omega
     rw [List.drop_length, List.map_nil, RB] at heq; have hQ := HQ.out; rw [Ub] at hQ; simp only [Z0.l] at hQ; rw [<- heq] at hQ; have hlk : ¬ lk < 0 := by omega
     unfold Cc at hQ; simp only [hlk, if_false, YF, Uc, Qn, Z0.op, Z0.n, Z0.s] at hQ; subst hQ; have n1 := HL.out.RI; have n8 := HL.out.Ib; simp only [Z0.op, Z0.n, Z0.s] at n8; obtain ⟨oa, oc, rfl⟩ := Yg HL.out.own; have hkn : ¬ ((xl.length : Nat) : Int) < ((xl.length : Nat) : Int) := by omega
     go_wp2_with (first
      | (refine VF rfl 43 _ rfl (w.heap.size + 1 + 1) rfl 43 _ (0, 0) _ n8 Tryz.underlying43 rfl YT ?_)
      | (refine Zc rfl 43 _ _ rfl (w.heap.size + 1) (ZN xo xn xs (.slice oa acc.length oc)) rfl rfl 43 _ n1 YT rfl (ZO _ rfl) ?_))
     have q2 := Zd _ _ _ (ZN xo xn xs (.slice oa acc.length oc)) _ _ n1; have hol := Zw HL.out.own; have hset : ∀ q, w.heap.size + 1 + 1 + 1 <= q -> (wr.setRow (w.heap.size + 1) (ZN xo xn xs (.slice oa acc.length oc))).heap[q]? = wr.heap[q]? := fun q hq => WM _ _ _ _ (by omega)
     refine Y4 (X4 (p := 6) (u := 7) rfl _ _ (w.heap.size + 1) 43 _ (0, 0) _ rfl q2 Tryz.underlying43 YT) rfl ⟨.mk xo xn xs (.slice oa acc.length oc) acc, rfl, by rw [Y2, XZ], .mk ?_ (by have := kJ.out; omega) (fun z hz => ?_), ZQ HL.out.grown (by omega) _⟩
     ·exact (KR (r := none) HL.out.own (Nat.le_refl _) (fun h e => h e.symm)).keep (by rw [setRow_size]; exact Nat.le_refl _) (fun q _ hl _ => hset q hl) (by omega) (fun q _ _ h => h)
     ·exact (HL.out.kids z hz).keep (by rw [setRow_size]; exact Nat.le_refl _) (fun q _ hl _ => hset q hl) (by omega) (fun q _ _ _ => by nofun)
structure Ke where
 op : Int
 n : Int
 steps : Int
 v : ZT
 out : List ByteArray
def SG (p : Zz) : ZT := .mk 7 p.main ⟨#[]⟩ []
def Nk : ZT := .mk 3 0 ⟨#[]⟩ []
def BZ (p : Zz) (fuel : Int) : ZT × Xc := Yl p fuel (fuel.toNat + 1) (SG p) (X8 p (SG p) Nk) [] 0 ⟨0, [], 0, 0⟩
def yF (r : ZT × Xc) (o : ZT × Int) : Ke := if r.2.e ≠ 0 then ⟨r.2.e, r.2.n, r.2.steps, default, r.2.out⟩ else if o.2 < 0 then ⟨2, 2, r.2.steps, default, r.2.out⟩ else ⟨1, r.2.n, r.2.steps, o.1, r.2.out⟩
def MP (p : Zz) (fuel : Int) : Ke := yF (BZ p fuel) (UH 400 (BZ p fuel).1 20000)
def QC (o : Ke) (y : Z0) (ov : Value) : Array Value := #[.int .i64 o.op, .int .i64 o.n, .int .i64 o.steps, .int .i64 y.op, .int .i64 y.n, .string y.s, .slice none 0 0, y.lv, ov]
def aaG (o : Ke) (w : World) (e : Ending) (w' : World) : Prop := ∃ (y : Z0) (ov : Value), e = .returned (.agg (QC o y ov)) /\ ZW y = o.v /\ Pm 0 none w' y /\ (∃ B, w'.ownsRow B 9 1 ov o.out.length (strCells o.out)) /\ Below w.heap.size w w'
theorem VH : (Tryz.prog.info? 45).map (·.size) = some 9 := by kernel_rfl
theorem tF {p : Zz} (hp : QI p) : Yx p (SG p) := .mk (fun _ => ⟨hp.main.1, hp.main.2.1, by rw [hp.main.2.2]; rfl⟩) (fun h => by cases h) (fun _ h => by cases h)
theorem Eu {w : World} {q : Nat} {fv tv : Value} {main fuel : Int} {st : Xc} {ov : Value} (h : w.heap[q]? = some (.cells (Im fv tv main fuel st ov) 91 (0, 0))) :
 w.cell? ⟨q, 0, none⟩ = some fv /\ w.cell? ⟨q, 1, none⟩ = some tv /\ w.cell? ⟨q, 2, none⟩ = some (.int .i64 main) /\ w.cell? ⟨q, 3, none⟩ = some (.int .i64 fuel) /\ w.cell? ⟨q, 4, none⟩ = some (.int .i64 st.steps) /\ w.cell? ⟨q, 5, none⟩ = some ov /\ w.cell? ⟨q, 6, none⟩ = some (.int .i64 st.e) /\ w.cell? ⟨q, 7, none⟩ = some (.int .i64 st.n) := ZK h
theorem tC {p : Zz} (hp : QI p) (fuel : Int) (hf0 : 0 <= fuel) (hfu : fuel <= 1000000) (hC : ∀ G, Nt p fuel G) (fv tv : Value) (w : World) (hP : Rp w fv tv p) :
 Calls Tryz.prog 12 #[.agg #[fv, tv, .int .i64 p.main], .int .i64 fuel] w (aaG (MP p fuel) w) := by
 obtain ⟨fa, fc, rfl, hfc, _⟩ := hP.1.1
 obtain ⟨ta, tc, rfl, htc, _⟩ := hP.2
 have hbF : Below w.heap.size w ((w.alloc (.cells #[.slice fa p.Zu.length fc, .slice ta p.texts.length tc, .int .i64 p.main] 29)).alloc (.cells #[.int .i64 0, .int .i64 0, .int .i64 0, .int .i64 0, .int .i64 0, .string ⟨#[]⟩, .slice none 0 0, .slice none 0 0, .slice none 0 0] 45)) := ((Below.refl _ _).alloc (Nat.le_refl _) _).alloc (by simp) _
 have n0 : ((w.alloc (.cells #[.slice fa p.Zu.length fc, .slice ta p.texts.length tc, .int .i64 p.main] 29)).alloc (.cells #[.int .i64 0, .int .i64 0, .int .i64 0, .int .i64 0, .int .i64 0, .string ⟨#[]⟩, .slice none 0 0, .slice none 0 0, .slice none 0 0] 45)).heap[w.heap.size]? = some (.cells #[.slice fa p.Zu.length fc, .slice ta p.texts.length tc, .int .i64 p.main] 29 (0, 0)) := (Below.heap_alloc _ _ _ (by simp)).trans (ZV w _)
 have n1 : ((w.alloc (.cells #[.slice fa p.Zu.length fc, .slice ta p.texts.length tc, .int .i64 p.main] 29)).alloc (.cells #[.int .i64 0, .int .i64 0, .int .i64 0, .int .i64 0, .int .i64 0, .string ⟨#[]⟩, .slice none 0 0, .slice none 0 0, .slice none 0 0] 45)).heap[w.heap.size + 1]? = some (.cells (QC ⟨0, 0, 0, default, []⟩ (.mk 0 0 ⟨#[]⟩ (.slice none 0 0) []) (.slice none 0 0)) 45 (0, 0)) := (congrArg _ (by simp)).trans (ZV (w.alloc _) _)
 have hz : ((w.alloc (.cells #[.slice fa p.Zu.length fc, .slice ta p.texts.length tc, .int .i64 p.main] 29)).alloc (.cells #[.int .i64 0, .int .i64 0, .int .i64 0, .int .i64 0, .int .i64 0, .string ⟨#[]⟩, .slice none 0 0, .slice none 0 0, .slice none 0 0] 45)).heap.size = w.heap.size + 1 + 1 := by simp
 have HP := Z9 hP
 have HC := Z9 hC
 have HST := Z9 (tF hp)
 have HPP := Z9 hp
 have hmain := hp.main
 obtain ⟨O, hO⟩ : ∃ O, MP p fuel = O := ⟨_, rfl⟩
 rw [hO]
 have HO := Z9 hO
 have HMN := Z9 hmain
 clear hP hC hO hp hmain
 go_in
 go_upto_region 1 with fail
 generalize ((w.alloc (.cells #[.slice fa p.Zu.length fc, .slice ta p.texts.length tc, .int .i64 p.main] 29)).alloc (.cells #[.int .i64 0, .int .i64 0, .int .i64 0, .int .i64 0, .int .i64 0, .string ⟨#[]⟩, .slice none 0 0, .slice none 0 0, .slice none 0 0] 45)) = W at *
 have e0 : W.cell? ⟨w.heap.size, 0, none⟩ = some (.slice fa p.Zu.length fc) := by simp [World.cell?, n0]
 have e1 : W.cell? ⟨w.heap.size, 1, none⟩ = some (.slice ta p.texts.length tc) := by simp [World.cell?, n0]
 have e2 : W.cell? ⟨w.heap.size, 2, none⟩ = some (.int .i64 p.main) := by simp [World.cell?, n0]
 have HZ := Z9 hz
 have qy := Z9 hbF
 have HN := Z9 (And.intro n0 n1)
 clear hz hbF n0 n1
 go_upto_region 2 with fail
 have gS := Z8 W (.cells #[.slice fa p.Zu.length fc, .slice ta p.texts.length tc, .int .i64 p.main, .int .i64 fuel, .int .i64 0, .slice none 0 0, .int .i64 0, .int .i64 0] 91)
 have nS := Zn W (.cells #[.slice fa p.Zu.length fc, .slice ta p.texts.length tc, .int .i64 p.main, .int .i64 fuel, .int .i64 0, .slice none 0 0, .int .i64 0, .int .i64 0] 91)
 have e2' := Z5 e2 (.cells #[.slice fa p.Zu.length fc, .slice ta p.texts.length tc, .int .i64 p.main, .int .i64 fuel, .int .i64 0, .slice none 0 0, .int .i64 0, .int .i64 0] 91)
 have HN2 := Z9 (And.intro ((gS.block _ (Z6 HN.out.1) (by nofun)).trans HN.out.1) ((gS.block _ (Z6 HN.out.2) (by nofun)).trans HN.out.2))
 generalize W.alloc (.cells #[.slice fa p.Zu.length fc, .slice ta p.texts.length tc, .int .i64 p.main, .int .i64 fuel, .int .i64 0, .slice none 0 0, .int .i64 0, .int .i64 0] 91) = V at *
 have hb2 := qy.out.trans (ZX (B := w.heap.size) gS qy.out.size (by nofun))
 have hSS : MF V W.heap.size (.slice fa p.Zu.length fc) (.slice ta p.texts.length tc) p.main fuel ⟨0, [], 0, 0⟩ (.slice none 0 0) := ⟨nS, World.ownsRow_nil _ _ _ _⟩
 have hst : ZW (.mk 7 p.main ⟨#[]⟩ (.slice none 0 0) []) = SG p := by rw [Y2, stripL]; rfl
 have hsa : ZW (.mk 3 0 ⟨#[]⟩ (.slice none 0 0) []) = Nk := by rw [Y2, stripL]; rfl
 have hcall := HC.out (fuel.toNat + 1) (fun _ => False) w W.heap.size (.slice fa p.Zu.length fc) (.slice ta p.texts.length tc) ⟨0, [], 0, 0⟩ (.slice none 0 0) (.mk 7 p.main ⟨#[]⟩ (.slice none 0 0) []) (.mk 3 0 ⟨#[]⟩ (.slice none 0 0) []) V HP.out hb2 qy.out.size (fun _ h => h.elim) hSS (Wp _ _ _ _ _) (Wp _ _ _ _ _) (by rw [hst]; exact HST.out) rfl (by rw [hsa]; exact WA p _ _ _ (by decide) (by decide)) (by decide) (by show fuel - 0 < ((fuel.toNat + 1 : Nat) : Int); omega) (Int.le_refl _) hf0
 rw [hst, hsa] at hcall
 have Jz := Z9 hcall
 rw [ZE, ZE] at Jz
 have HRD : Yl p fuel (fuel.toNat + 1) (SG p) (X8 p (SG p) Nk) [] 0 ⟨0, [], 0, 0⟩ = BZ p fuel := rfl
 have HB2 := Z9 hb2
 have hVS := Z6 nS
 have nV := Z9 gS
 clear hcall hst hsa hSS hb2 gS nS e0 e1 e2 HC
 rw [HRD] at Jz
 clear HRD
 unfold MP at HO
 obtain ⟨r, hr⟩ : ∃ r, BZ p fuel = r := ⟨_, rfl⟩
 have kI := Z9 (Il HPP.out fuel (fuel.toNat + 1) (SG p) (X8 p (SG p) Nk) [] 0 ⟨0, [], 0, 0⟩ HST.out rfl (Px _ (WA p _ _ _ (by decide) (by decide))) (fun _ h => by cases h) (by decide) hf0)
 rw [show Yl p fuel (fuel.toNat + 1) (SG p) (X8 p (SG p) Nk) [] 0 ⟨0, [], 0, 0⟩ = r from hr] at kI
 rw [hr] at HO Jz
 clear hr
 go_upto_region 3 with (go_at_call 33; refine Jz.out.mono ?_; rintro e w4 ⟨⟨xo, xn, xs, xv, xl⟩, o3, rfl, hx, hxv, hS4, hE4⟩; obtain ⟨xa, xc, rfl, _⟩ := hxv.parts.1; rw [ZE])
 have g5 := Z8 w4 (.cells #[.int .i64 xo, .int .i64 xn, .string xs, .slice xa xl.length xc] 94)
 have n5 := Zn w4 (.cells #[.int .i64 xo, .int .i64 xn, .string xs, .slice xa xl.length xc] 94)
 have hz4 := hE4.size
 have hzW := HZ.out
 have n15 := (g5.block _ (Z6 ((hE4.kept _ (Z6 HN2.out.2) (by omega) (by nofun)).trans HN2.out.2)) (by nofun)).trans ((hE4.kept _ (Z6 HN2.out.2) (by omega) (by nofun)).trans HN2.out.2)
 have hbX := (HB2.out.trans (hE4.below (B := w.heap.size) (by omega) hVS (fun k hk => by cases hk))).trans (ZX (B := w.heap.size) g5 (by omega) (by nofun))
 obtain ⟨oa, oc, rfl⟩ := Yg hS4.own
 have bL := Z9 (hS4.free g5)
 have HXV := Z9 (hxv.kept (ZG g5))
 have HX := Z9 hx
 have HN5 := Z9 (And.intro n5 n15)
 have Pq := Z9 hbX
 clear hbX n15 hx hxv hS4 hE4 n5 e2' hzW
 have hzX := g5.size
 clear g5
 generalize w4.alloc (.cells #[.int .i64 xo, .int .i64 xn, .string xs, .slice xa xl.length xc] 94) = X at *
 obtain ⟨_, _, _, _, q4, q5, q6, q7⟩ := Eu bL.out.blk
 obtain ⟨x0, x1, x2, x3⟩ := YV HN5.out.1
 have q64 : X.drew.cell? ⟨W.heap.size, 4, none⟩ = some (.int .i64 r.2.steps) /\ X.drew.cell? ⟨W.heap.size, 5, none⟩ = some (.slice oa r.2.out.length oc) /\ X.drew.cell? ⟨W.heap.size, 6, none⟩ = some (.int .i64 r.2.e) /\ X.drew.cell? ⟨W.heap.size, 7, none⟩ = some (.int .i64 r.2.n) := ⟨q4, q5, q6, q7⟩
 go_region_held3 (fun w9 => w9.cell? ⟨W.heap.size, 4, none⟩ = some (.int .i64 r.2.steps) /\ w9.cell? ⟨W.heap.size, 5, none⟩ = some (.slice oa r.2.out.length oc) /\ w9.cell? ⟨W.heap.size, 6, none⟩ = some (.int .i64 r.2.e) /\ w9.cell? ⟨W.heap.size, 7, none⟩ = some (.int .i64 r.2.n)) (first | exact q64 | go_keep) (fail)
 have g6 := both (Z8 X (.cells #[.int .i64 r.2.e, .int .i64 r.2.n, .int .i64 r.2.steps, .int .i64 0, .int .i64 0, .string ⟨#[]⟩, .slice none 0 0, .slice none 0 0, .slice oa r.2.out.length oc] 45)) (Z4 _)
 have n6 := ((Z4 (X.alloc (.cells #[.int .i64 r.2.e, .int .i64 r.2.n, .int .i64 r.2.steps, .int .i64 0, .int .i64 0, .string ⟨#[]⟩, .slice none 0 0, .slice none 0 0, .slice oa r.2.out.length oc] 45))).block X.heap.size (Z6 (Zn X _)) (by nofun)).trans (Zn X (.cells #[.int .i64 r.2.e, .int .i64 r.2.n, .int .i64 r.2.steps, .int .i64 0, .int .i64 0, .string ⟨#[]⟩, .slice none 0 0, .slice none 0 0, .slice oa r.2.out.length oc] 45))
 have kH := Z9 (bL.out.free g6)
 have HXY := Z9 (HXV.out.kept (ZG g6))
 have n51 := (g6.block _ (Z6 HN5.out.1) (by nofun)).trans HN5.out.1
 have n61 := (g6.block _ (Z6 HN5.out.2) (by nofun)).trans HN5.out.2
 have bK := Z9 (Pq.out.trans (ZX (B := w.heap.size) g6 Pq.out.size (by nofun)))
 have hzY := g6.size
 have hzo := Z6 n6
 have hXr := Z6 HN5.out.2
 clear g6 q4 q5 q6 q7 q64 x0 x1 x2 x3
 generalize (X.alloc (.cells #[.int .i64 r.2.e, .int .i64 r.2.n, .int .i64 r.2.steps, .int .i64 0, .int .i64 0, .string ⟨#[]⟩, .slice none 0 0, .slice none 0 0, .slice oa r.2.out.length oc] 45)).drew = Y at *
 obtain ⟨_, _, _, _, q4, q5, q6, q7⟩ := Eu kH.out.blk
 obtain ⟨x0, x1, x2, x3⟩ := YV n51
 have HNR := Z9 n61
 by_cases he : r.2.e = 0
 ·have heb : (r.2.e != 0) = false := by rw [he]; rfl
  have AV := Ev 400 (Nat.le_refl _) (fun _ => False) _ Y 20000 HXY.out (by decide) (Int.le_refl _); rw [HX.out, ZE] at AV; have AV : Calls Tryz.prog 34 #[.agg #[.int .i64 xo, .int .i64 xn, .string xs, .slice xa xl.length xc], .int .i64 20000, .int .i64 400] Y (tH (UH 400 r.1 20000) Y) := AV; have Am := HO.out; unfold yF at Am; rw [Z7 (by simpa using he)] at Am; generalize UH 400 r.1 20000 = r2 at *; have HOB := Z9 AV; have bJ := Z9 Am; clear AV Am HO; have hold := kH.out.own; go_upto_region 7 with (go_at_call 34; refine HOB.out.mono ?_; rintro e w7 ⟨⟨yo, yn, ys, yv, yl⟩, rfl, hy1, hy2, hy3⟩; obtain ⟨ya, yq, rfl, _⟩ := hy2.parts.1; simp only [ZN, Z0.op, Z0.n, Z0.s, Z0.lv]); have g8 := both hy3 (Z8 w7 (.cells #[.int .i64 yo, .int .i64 yn, .string ys, .slice none 0 0, .slice ya yl.length yq] 43)); have n8 := Zn w7 (.cells #[.int .i64 yo, .int .i64 yn, .string ys, .slice none 0 0, .slice ya yl.length yq] 43); have n6' := (g8.block _ (Z6 n6) (by nofun)).trans n6; have n61' := (g8.block _ (Z6 n61) (by nofun)).trans n61; have HOW := Z9 (Zx kH.out.own g8 (by nofun)); have HY2 := Z9 (hy2.keep (r' := none) (w' := w7.alloc (.cells #[.int .i64 yo, .int .i64 yn, .string ys, .slice none 0 0, .slice ya yl.length yq] 43)) (by simp) (fun b hb _ _ => (Z8 w7 _).block b hb (by nofun)) (Nat.le_refl _) (fun _ _ _ h => h)); have HB8 := Z9 (bK.out.trans (ZX (B := w.heap.size) g8 bK.out.size (by nofun))); have hz8 := g8.size; have hz87 := hy3.size; have HY1 := Z9 hy1; clear g8 n6 n61 hold hy1 hy2 hy3 q4 q5 q6 q7 x0 x1 x2 x3; obtain ⟨c0, c1, c2, c3, c4⟩ := Yh n8; generalize w7.alloc (.cells #[.int .i64 yo, .int .i64 yn, .string ys, .slice none 0 0, .slice ya yl.length yq] 43) = Z at *; have z0 := Lib.frozen_of_heap n6' 0; have z1 := Lib.frozen_of_heap n6' 1; have z3 := Lib.frozen_of_heap n6' 3; have z4 := Lib.frozen_of_heap n6' 4; have z5 := Lib.frozen_of_heap n6' 5; have z6 := Lib.frozen_of_heap n6' 6; have z7 := Lib.frozen_of_heap n6' 7; have k0 := (Zk _ _ 0 _ _ _ n6').trans (show _ = some (Value.int .i64 r.2.e) from rfl); have k1 := (Zk _ _ 1 _ _ _ n6').trans (show _ = some (Value.int .i64 r.2.n) from rfl); have k3 := (Zk _ _ 3 _ _ _ n6').trans (show _ = some (Value.int .i64 0) from rfl); have k4 := (Zk _ _ 4 _ _ _ n6').trans (show _ = some (Value.int .i64 0) from rfl); have k5 := (Zk _ _ 5 _ _ _ n6').trans (show _ = some (Value.string ⟨#[]⟩) from rfl); have k6 := (Zk _ _ 6 _ _ _ n6').trans (show _ = some (Value.slice none 0 0) from rfl); have k7 := (Zk _ _ 7 _ _ _ n6').trans (show _ = some (Value.slice none 0 0) from rfl); by_cases h2 : r2.2 < 0
  ·have Am := bJ.out
   rw [ZY h2] at Am; subst Am; have s1 := ZL (i := 0) n6' (.int .i64 2); have s2 := ZL (i := 1) s1 (.int .i64 2); have gs := both (Zv Z X.heap.size 0 (.int .i64 2)) (Zv _ X.heap.size 1 (.int .i64 2)); have n9 := (gs.block _ (Z6 n61') (fun e => by have := Option.some.inj e; omega)).trans n61'; go_wp2_with (first
    | (refine VF rfl 45 _ rfl X.heap.size rfl 45 #[.int .i64 2, .int .i64 2, .int .i64 r.2.steps, .int .i64 0, .int .i64 0, .string ⟨#[]⟩, .slice none 0 0, .slice none 0 0, .slice oa r.2.out.length oc] (0, 0) _ s2 Tryz.underlying45 rfl VH ?_)
    | (refine Zc rfl 45 _ _ rfl (w.heap.size + 1) #[.int .i64 2, .int .i64 2, .int .i64 r.2.steps, .int .i64 0, .int .i64 0, .string ⟨#[]⟩, .slice none 0 0, .slice none 0 0, .slice oa r.2.out.length oc] rfl rfl 45 _ n9 VH rfl (ZO _ rfl) ?_))
   have q2 := Zd _ _ _ #[.int .i64 2, .int .i64 2, .int .i64 r.2.steps, .int .i64 0, .int .i64 0, .string ⟨#[]⟩, .slice none 0 0, .slice none 0 0, .slice oa r.2.out.length oc] _ _ n9; have hgs := UJ ((Z.setCell ⟨X.heap.size, 0, none⟩ (.int .i64 2)).setCell ⟨X.heap.size, 1, none⟩ (.int .i64 2)) (w.heap.size + 1) #[.int .i64 2, .int .i64 2, .int .i64 r.2.steps, .int .i64 0, .int .i64 0, .string ⟨#[]⟩, .slice none 0 0, .slice none 0 0, .slice oa r.2.out.length oc]
   exact Y4 (YC rfl _ _ (w.heap.size + 1) 45 #[.int .i64 2, .int .i64 2, .int .i64 r.2.steps, .int .i64 0, .int .i64 0, .string ⟨#[]⟩, .slice none 0 0, .slice none 0 0, .slice oa r.2.out.length oc] (0, 0) _ rfl q2 Tryz.underlying45 rfl VH) rfl
    ⟨(.mk 0 0 ⟨#[]⟩ (.slice none 0 0) []), .slice oa r.2.out.length oc, rfl, XU, SH _ _ _ _ _ _, ⟨_, Zx (Zx HOW.out gs (fun k hk e => by have := (Zw bL.out.own _ e).2; cases hk; omega)) hgs (fun k hk e => by have := (Zw kH.out.own _ e).1; have := HZ.out; cases hk; omega)⟩, (HB8.out.trans (ZX (B := w.heap.size) gs HB8.out.size (fun k hk => by cases hk; omega))).trans (ZX (B := w.heap.size) hgs (by have := gs.size; have := HB8.out.size; omega) (fun k hk => by cases hk; omega))⟩
  ·have Am := bJ.out
   rw [Z7 h2] at Am; subst Am; go_wp2_with fail; have n8d : Z.drew.heap[w7.heap.size]? = some (.cells #[.int .i64 yo, .int .i64 yn, .string ys, .slice none 0 0, .slice ya yl.length yq] 43 (0, 0)) := n8; have hne : w7.heap.size ≠ X.heap.size := by omega
   refine XG (S := fun w9 => w9.heap[w7.heap.size]? = some (.cells #[.int .i64 yo, .int .i64 yn, .string ys, .slice none 0 0, .slice ya yl.length yq] 43 (0, 0))) (by kernel_rfl) n8d (fun hHeld => ?_); refine tks (b := ?_) (by kernel_rfl) (fun _ _ _ _ _ h => h) n8d 2 [0, 1] (by kernel_rfl) ?_ ?_; rotate_left
   ·refine yc (v := .agg #[.int .i64 yo, .int .i64 yn, .string ys, .slice none 0 0, .slice ya yl.length yq]) rfl rfl (by rfl) (fun w9 hSw => by have hSw : w9.heap[w7.heap.size]? = some (.cells #[.int .i64 yo, .int .i64 yn, .string ys, .slice none 0 0, .slice ya yl.length yq] 43 (0, 0)) := hSw; obtain ⟨t0, t1, t2, t3, t4⟩ := Yh hSw; go_simp) ?_
    simp only [Act.put, Zj, Zi, Zh]; refine yc (v := ?_) rfl rfl (by rfl) (fun w9 hSw => ?_) ?_; rotate_left; (focus go_simp; try rfl); simp only [Act.put, Zj, Zi, Zh]; exact rfl
   refine rd1 2 (by kernel_rfl) rfl fun K hK => ?_
   have gA : Z.grownBy (Z.setCell ⟨X.heap.size, 0, none⟩ (.int .i64 1)).drew (some X.heap.size) := both (Zv Z X.heap.size 0 (.int .i64 1)) (YA (Z4 _) _); have m8 : (Z.setCell ⟨X.heap.size, 0, none⟩ (.int .i64 1)).drew.heap[w7.heap.size]? = some (.cells #[.int .i64 yo, .int .i64 yn, .string ys, .slice none 0 0, .slice ya yl.length yq] 43 (0, 0)) := (gA.block _ (Z6 n8) (fun e => hne (Option.some.inj e))).trans n8; have m6 : (Z.setCell ⟨X.heap.size, 0, none⟩ (.int .i64 1)).drew.heap[X.heap.size]? = some (.cells #[.int .i64 1, .int .i64 r.2.n, .int .i64 r.2.steps, .int .i64 0, .int .i64 0, .string ⟨#[]⟩, .slice none 0 0, .slice none 0 0, .slice oa r.2.out.length oc] 45 (0, 0)) := ZL (w := Z) (i := 0) n6' (.int .i64 1); have z0d : Z.drew.frozen? ⟨X.heap.size, 0, none⟩ = false := z0; have k0d : Z.drew.cell? ⟨X.heap.size, 0, none⟩ = some (Value.int .i64 r.2.e) := k0; go_simp; refine hK.out _ _ m8 (fun _ => ?_); clear hK K; generalize (Z.setCell ⟨X.heap.size, 0, none⟩ (.int .i64 1)).drew = Q at *; refine tks (b := ?_) (by kernel_rfl) (fun _ _ _ _ _ h => h) m8 1 [3] (by kernel_rfl) ?_ ?_; rotate_left
   ·refine yc (v := ?_) rfl rfl (by rfl) (fun w9 hSw => ?_) ?_; rotate_left; (focus go_simp; try rfl); simp only [Act.put, Zj, Zi, Zh]
    exact rfl
   refine rd1 4 (by kernel_rfl) rfl fun K hK => ?_
   have gB : Q.grownBy (((((Q.setCell ⟨X.heap.size, 3, none⟩ (.int .i64 yo)).setCell ⟨X.heap.size, 4, none⟩ (.int .i64 yn)).setCell ⟨X.heap.size, 5, none⟩ (.string ys)).setCell ⟨X.heap.size, 6, none⟩ (.slice none 0 0)).setCell ⟨X.heap.size, 7, none⟩ (.slice ya yl.length yq)) (some X.heap.size) := both (both (both (both (Zv Q X.heap.size 3 (.int .i64 yo)) (Zv _ X.heap.size 4 (.int .i64 yn))) (Zv _ X.heap.size 5 (.string ys))) (Zv _ X.heap.size 6 (.slice none 0 0))) (Zv _ X.heap.size 7 (.slice ya yl.length yq)); have l8 : (((((Q.setCell ⟨X.heap.size, 3, none⟩ (.int .i64 yo)).setCell ⟨X.heap.size, 4, none⟩ (.int .i64 yn)).setCell ⟨X.heap.size, 5, none⟩ (.string ys)).setCell ⟨X.heap.size, 6, none⟩ (.slice none 0 0)).setCell ⟨X.heap.size, 7, none⟩ (.slice ya yl.length yq)).heap[w7.heap.size]? = some (.cells #[.int .i64 yo, .int .i64 yn, .string ys, .slice none 0 0, .slice ya yl.length yq] 43 (0, 0)) := (gB.block _ (Z6 m8) (fun e => hne (Option.some.inj e))).trans m8; have bE : (((((Q.setCell ⟨X.heap.size, 3, none⟩ (.int .i64 yo)).setCell ⟨X.heap.size, 4, none⟩ (.int .i64 yn)).setCell ⟨X.heap.size, 5, none⟩ (.string ys)).setCell ⟨X.heap.size, 6, none⟩ (.slice none 0 0)).setCell ⟨X.heap.size, 7, none⟩ (.slice ya yl.length yq)).heap[X.heap.size]? = some (.cells #[.int .i64 1, .int .i64 r.2.n, .int .i64 r.2.steps, .int .i64 yo, .int .i64 yn, .string ys, .slice none 0 0, .slice ya yl.length yq, .slice oa r.2.out.length oc] 45 (0, 0)) := ZL (i := 7) (ZL (i := 6) (ZL (i := 5) (ZL (i := 4) (ZL (i := 3) m6 (.int .i64 yo)) (.int .i64 yn)) (.string ys)) (.slice none 0 0)) (.slice ya yl.length yq); have f3 := Lib.frozen_of_heap m6 3; have f4 := Lib.frozen_of_heap m6 4; have f5 := Lib.frozen_of_heap m6 5; have f6 := Lib.frozen_of_heap m6 6; have f7 := Lib.frozen_of_heap m6 7; have d3 := (Zk _ _ 3 _ _ _ m6).trans (show _ = some (Value.int .i64 0) from rfl); have d4 := (Zk _ _ 4 _ _ _ m6).trans (show _ = some (Value.int .i64 0) from rfl); have d5 := (Zk _ _ 5 _ _ _ m6).trans (show _ = some (Value.string ⟨#[]⟩) from rfl); have d6 := (Zk _ _ 6 _ _ _ m6).trans (show _ = some (Value.slice none 0 0) from rfl); have d7 := (Zk _ _ 7 _ _ _ m6).trans (show _ = some (Value.slice none 0 0) from rfl); have gE : Z.grownBy (((((Q.setCell ⟨X.heap.size, 3, none⟩ (.int .i64 yo)).setCell ⟨X.heap.size, 4, none⟩ (.int .i64 yn)).setCell ⟨X.heap.size, 5, none⟩ (.string ys)).setCell ⟨X.heap.size, 6, none⟩ (.slice none 0 0)).setCell ⟨X.heap.size, 7, none⟩ (.slice ya yl.length yq)) (some X.heap.size) := both gA gB; go_simp; refine hK.out _ _ l8 (fun _ => ?_); clear hK K gA gB l8 f3 f4 f5 f6 f7 d3 d4 d5 d6 d7 m6 m8 z0d k0d hHeld n8d; refine X3 (by kernel_rfl) ?_ _; generalize (((((Q.setCell ⟨X.heap.size, 3, none⟩ (.int .i64 yo)).setCell ⟨X.heap.size, 4, none⟩ (.int .i64 yn)).setCell ⟨X.heap.size, 5, none⟩ (.string ys)).setCell ⟨X.heap.size, 6, none⟩ (.slice none 0 0)).setCell ⟨X.heap.size, 7, none⟩ (.slice ya yl.length yq)) = Q2 at *; have acg := Z6 n8; have n9 := (gE.block _ (Z6 n61') (fun e => by have := Option.some.inj e; omega)).trans n61'; go_wp2_with (first
    | (refine VF rfl 45 _ rfl X.heap.size rfl 45 #[.int .i64 1, .int .i64 r.2.n, .int .i64 r.2.steps, .int .i64 yo, .int .i64 yn, .string ys, .slice none 0 0, .slice ya yl.length yq, .slice oa r.2.out.length oc] (0, 0) _ bE Tryz.underlying45 rfl VH ?_)
    | (refine Zc rfl 45 _ _ rfl (w.heap.size + 1) #[.int .i64 1, .int .i64 r.2.n, .int .i64 r.2.steps, .int .i64 yo, .int .i64 yn, .string ys, .slice none 0 0, .slice ya yl.length yq, .slice oa r.2.out.length oc] rfl rfl 45 _ n9 VH rfl (ZO _ rfl) ?_))
   have q2 := Zd _ _ _ #[.int .i64 1, .int .i64 r.2.n, .int .i64 r.2.steps, .int .i64 yo, .int .i64 yn, .string ys, .slice none 0 0, .slice ya yl.length yq, .slice oa r.2.out.length oc] _ _ n9; have hgs := UJ Q2 (w.heap.size + 1) #[.int .i64 1, .int .i64 r.2.n, .int .i64 r.2.steps, .int .i64 yo, .int .i64 yn, .string ys, .slice none 0 0, .slice ya yl.length yq, .slice oa r.2.out.length oc]
   exact Y4 (YC rfl _ _ (w.heap.size + 1) 45 #[.int .i64 1, .int .i64 r.2.n, .int .i64 r.2.steps, .int .i64 yo, .int .i64 yn, .string ys, .slice none 0 0, .slice ya yl.length yq, .slice oa r.2.out.length oc] (0, 0) _ rfl q2 Tryz.underlying45 rfl VH) rfl
    ⟨.mk yo yn ys (.slice ya yl.length yq) yl, .slice oa r.2.out.length oc, rfl, HY1.out, HY2.out.keep (by rw [setRow_size]; exact gE.size) (fun b hb hl _ => (WM _ _ _ _ (by omega)).trans (gE.block b hb (fun e => by have := Option.some.inj e; omega))) (Nat.zero_le _) (fun _ _ _ h => h), ⟨_, Zx (Zx HOW.out gE (fun k hk e => by have := (Zw bL.out.own _ e).2; cases hk; omega)) hgs (fun k hk e => by have := (Zw kH.out.own _ e).1; have := HZ.out; cases hk; omega)⟩, (HB8.out.trans (ZX (B := w.heap.size) gE HB8.out.size (fun k hk => by cases hk; omega))).trans (ZX (B := w.heap.size) hgs (by have := gE.size; have := HB8.out.size; omega) (fun k hk => by cases hk; omega))⟩
 ·have heb : (r.2.e != 0) = true := by rw [bne, Zt he]; rfl
  have Am := HO.out; unfold yF at Am; rw [ZY he] at Am; go_wp2_with (first
   | (refine VF rfl 45 _ rfl X.heap.size rfl 45 _ (0, 0) _ n6 Tryz.underlying45 rfl VH ?_)
   | (refine Zc rfl 45 _ _ rfl (w.heap.size + 1) #[.int .i64 r.2.e, .int .i64 r.2.n, .int .i64 r.2.steps, .int .i64 0, .int .i64 0, .string ⟨#[]⟩, .slice none 0 0, .slice none 0 0, .slice oa r.2.out.length oc] rfl rfl 45 _ n61 VH rfl (ZO _ rfl) ?_))
  have q2 := Zd _ _ _ #[.int .i64 r.2.e, .int .i64 r.2.n, .int .i64 r.2.steps, .int .i64 0, .int .i64 0, .string ⟨#[]⟩, .slice none 0 0, .slice none 0 0, .slice oa r.2.out.length oc] _ _ n61; have hgs := UJ Y (w.heap.size + 1) #[.int .i64 r.2.e, .int .i64 r.2.n, .int .i64 r.2.steps, .int .i64 0, .int .i64 0, .string ⟨#[]⟩, .slice none 0 0, .slice none 0 0, .slice oa r.2.out.length oc]; subst Am
  exact Y4 (YC rfl _ _ (w.heap.size + 1) 45 #[.int .i64 r.2.e, .int .i64 r.2.n, .int .i64 r.2.steps, .int .i64 0, .int .i64 0, .string ⟨#[]⟩, .slice none 0 0, .slice none 0 0, .slice oa r.2.out.length oc] (0, 0) _ rfl q2 Tryz.underlying45 rfl VH) rfl
   ⟨(.mk 0 0 ⟨#[]⟩ (.slice none 0 0) []), .slice oa r.2.out.length oc, rfl, XU, SH _ _ _ _ _ _, ⟨_, Zx kH.out.own hgs (fun k hk e => by have := (Zw kH.out.own _ e).1; have := HZ.out; cases hk; omega)⟩, bK.out.trans (ZX (B := w.heap.size) hgs bK.out.size (fun k hk => by cases hk; omega))⟩
end Go.Proofs.YtbcfdebdikgijaaGreatDoor
