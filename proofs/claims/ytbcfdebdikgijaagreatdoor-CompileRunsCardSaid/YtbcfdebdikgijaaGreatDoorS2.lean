/- Part of the proof; its texts: Cq2 Cq3. -/
import Derived.Test.YtbcfdebdikgijaaGreatDoorS1
set_option maxRecDepth 100000
set_option linter.unusedVariables false
set_option linter.unusedSimpArgs false
namespace Go.Proofs.YtbcfdebdikgijaaGreatDoor
open Go Go.RowKit
def Ma (i : Ins) (p : Nat) (D : Nat -> Nat) (len o : Nat) : Prop :=
 Zb i.op = true /\ (i.op = 13 -> Y7 i.b 1 1000 = true) /\ (Ya i.op i.a i.b).2.2 = 0 /\ (Ya i.op i.a i.b).1 <= D o /\
 ∀ t ∈ KC i (p + o), ∃ o', o' <= len /\ t = ((p + o' : Nat) : Int) /\ (D o' : Int) + (Ya i.op i.a i.b).1 = D o + (Ya i.op i.a i.b).2.1
def Tx (C : List Ins) (p : Nat) (D : Nat -> Nat) (len o : Nat) : Prop := Ma (C.getD (p + o) default) p D len o
theorem Tx.shift {C : List Ins} {p q o k len len' j : Nat} {D D' : Nat -> Nat} (h : Tx C q D' len' j) (hq : q = p + o) (hD : ∀ i, i <= len' -> D (o + i) = k + D' i) (hj : j <= len') (hlen : o + len' <= len) : Tx C p D len (o + j) := by
 subst hq
 unfold Tx Ma at h ⊢
 rw [<- Nat.add_assoc]
 obtain ⟨h0, h1, h2, h3, h4⟩ := h
 have e := hD j hj
 refine ⟨h0, h1, h2, by omega, fun t ht => ?_⟩
 obtain ⟨o', a, b, c⟩ := h4 t ht
 have e' := hD o' a
 exact ⟨o + o', by omega, by omega, by omega⟩
theorem UU {C : List Ins} {p : Nat} {i : Ins} (h : C[p]? = some i) : C.getD p default = i := by simp [List.getD, h]
theorem Td {caps : Int} {Ze : Int -> Int -> Bool} {loc op n : Int} {s : ByteArray} {k : Nat} (h : Zy caps Ze loc op n s k = true) :
 op = 2 \/ op = 3 \/ op = 6 \/ op = 7 \/ op = 8 \/ op = 9 \/ op = 11 \/ op = 12 \/ op = 13 \/ op = 21 \/ op = 22 \/ op = 23 \/ op = 24 \/ op = 25 := by
 by_cases g : op = 2 \/ op = 3 \/ op = 6 \/ op = 7 \/ op = 8 \/ op = 9 \/ op = 11 \/ op = 12 \/ op = 13 \/ op = 21 \/ op = 22 \/ op = 23 \/ op = 24 \/ op = 25
 ·exact g
 ·unfold Zy at h
  by_cases hs : op ≠ 3 /\ s.size ≠ 0
  ·rw [ZY hs] at h; cases h
  ·rw [Z7 hs, Z7 (by omega), Z7 (by omega), Z7 (by omega), Z7 (by omega), Z7 (by omega), Z7 (by omega), Z7 (by omega), Z7 (by omega), Z7 (by omega), Z7 (by omega), Z7 (by omega), Z7 (by omega)] at h
   cases h
theorem NS {caps : Int} {Ze : Int -> Int -> Bool} {loc n : Int} {s : ByteArray} {k : Nat} (h : Zy caps Ze loc 2 n s k = true) : (decide (k = 0) && Y7 n (-4503599627370496) 4503599627370496) = true /\ (2 = 3 \/ s.size = 0) := by
 unfold Zy at h
 by_cases hs : (2 : Int) ≠ 3 /\ s.size ≠ 0
 ·rw [ZY hs] at h; cases h
 ·rw [Z7 hs, ZY (rfl)] at h
  exact ⟨h, by omega⟩
theorem Sd {caps : Int} {Ze : Int -> Int -> Bool} {loc n : Int} {s : ByteArray} {k : Nat} (h : Zy caps Ze loc 3 n s k = true) : (decide (k = 0) && (decide (n = 0) && decide (s.size <= 16384))) = true /\ (3 = 3 \/ s.size = 0) := by
 unfold Zy at h
 by_cases hs : (3 : Int) ≠ 3 /\ s.size ≠ 0
 ·rw [ZY hs] at h; cases h
 ·rw [Z7 hs, Z7 (by decide), ZY (rfl)] at h
  exact ⟨h, by omega⟩
theorem Jj {caps : Int} {Ze : Int -> Int -> Bool} {loc n : Int} {s : ByteArray} {k : Nat} (h : Zy caps Ze loc 6 n s k = true) : (decide (n = 0) && decide (k <= 1000)) = true /\ (6 = 3 \/ s.size = 0) := by
 unfold Zy at h
 by_cases hs : (6 : Int) ≠ 3 /\ s.size ≠ 0
 ·rw [ZY hs] at h; cases h
 ·rw [Z7 hs, Z7 (by decide), Z7 (by decide), ZY (rfl)] at h
  exact ⟨h, by omega⟩
theorem L9 {caps : Int} {Ze : Int -> Int -> Bool} {loc n : Int} {s : ByteArray} {k : Nat} (h : Zy caps Ze loc 7 n s k = true) : (decide (k = 1) && Y7 n 0 999) = true /\ (7 = 3 \/ s.size = 0) := by
 unfold Zy at h
 by_cases hs : (7 : Int) ≠ 3 /\ s.size ≠ 0
 ·rw [ZY hs] at h; cases h
 ·rw [Z7 hs, Z7 (by decide), Z7 (by decide), Z7 (by decide), ZY (.inl rfl)] at h
  exact ⟨h, by omega⟩
theorem L8 {caps : Int} {Ze : Int -> Int -> Bool} {loc n : Int} {s : ByteArray} {k : Nat} (h : Zy caps Ze loc 8 n s k = true) : (decide (k = 1) && Y7 n 0 999) = true /\ (8 = 3 \/ s.size = 0) := by
 unfold Zy at h
 by_cases hs : (8 : Int) ≠ 3 /\ s.size ≠ 0
 ·rw [ZY hs] at h; cases h
 ·rw [Z7 hs, Z7 (by decide), Z7 (by decide), Z7 (by decide), ZY (.inr rfl)] at h
  exact ⟨h, by omega⟩
theorem Rs {caps : Int} {Ze : Int -> Int -> Bool} {loc n : Int} {s : ByteArray} {k : Nat} (h : Zy caps Ze loc 9 n s k = true) : (decide (n = 0) && Y7 k 2 1001) = true /\ (9 = 3 \/ s.size = 0) := by
 unfold Zy at h
 by_cases hs : (9 : Int) ≠ 3 /\ s.size ≠ 0
 ·rw [ZY hs] at h; cases h
 ·rw [Z7 hs, Z7 (by decide), Z7 (by decide), Z7 (by decide), Z7 (by decide), ZY (rfl)] at h
  exact ⟨h, by omega⟩
theorem O5 {caps : Int} {Ze : Int -> Int -> Bool} {loc n : Int} {s : ByteArray} {k : Nat} (h : Zy caps Ze loc 25 n s k = true) : (decide (n = 0) && decide (k = 2)) = true /\ (25 = 3 \/ s.size = 0) := by
 unfold Zy at h
 by_cases hs : (25 : Int) ≠ 3 /\ s.size ≠ 0
 ·rw [ZY hs] at h; cases h
 ·rw [Z7 hs, Z7 (by decide), Z7 (by decide), Z7 (by decide), Z7 (by decide), Z7 (by decide), ZY (.inr rfl)] at h
  exact ⟨h, by omega⟩
theorem Mw {caps : Int} {Ze : Int -> Int -> Bool} {loc n : Int} {s : ByteArray} {k : Nat} (h : Zy caps Ze loc 12 n s k = true) : (Y7 n 1 14 && decide ((k : Int) = ZA n)) = true /\ (12 = 3 \/ s.size = 0) := by
 unfold Zy at h
 by_cases hs : (12 : Int) ≠ 3 /\ s.size ≠ 0
 ·rw [ZY hs] at h; cases h
 ·rw [Z7 hs, Z7 (by decide), Z7 (by decide), Z7 (by decide), Z7 (by decide), Z7 (by decide), Z7 (by decide), ZY (rfl)] at h
  exact ⟨h, by omega⟩
theorem O4 {caps : Int} {Ze : Int -> Int -> Bool} {loc n : Int} {s : ByteArray} {k : Nat} (h : Zy caps Ze loc 13 n s k = true) : (decide (k = 0) && Y7 n 1 1000000) = true /\ (13 = 3 \/ s.size = 0) := by
 unfold Zy at h
 by_cases hs : (13 : Int) ≠ 3 /\ s.size ≠ 0
 ·rw [ZY hs] at h; cases h
 ·rw [Z7 hs, Z7 (by decide), Z7 (by decide), Z7 (by decide), Z7 (by decide), Z7 (by decide), Z7 (by decide), Z7 (by decide), ZY (rfl)] at h
  exact ⟨h, by omega⟩
theorem Qw {caps : Int} {Ze : Int -> Int -> Bool} {loc n : Int} {s : ByteArray} {k : Nat} (h : Zy caps Ze loc 21 n s k = true) : (decide (k = 0) && Y7 n 0 (loc - 1)) = true /\ (21 = 3 \/ s.size = 0) := by
 unfold Zy at h
 by_cases hs : (21 : Int) ≠ 3 /\ s.size ≠ 0
 ·rw [ZY hs] at h; cases h
 ·rw [Z7 hs, Z7 (by decide), Z7 (by decide), Z7 (by decide), Z7 (by decide), Z7 (by decide), Z7 (by decide), Z7 (by decide), Z7 (by decide), ZY (rfl)] at h
  exact ⟨h, by omega⟩
theorem Mv {caps : Int} {Ze : Int -> Int -> Bool} {loc n : Int} {s : ByteArray} {k : Nat} (h : Zy caps Ze loc 22 n s k = true) : (decide (k = 0) && decide (n = 0)) = true /\ (22 = 3 \/ s.size = 0) := by
 unfold Zy at h
 by_cases hs : (22 : Int) ≠ 3 /\ s.size ≠ 0
 ·rw [ZY hs] at h; cases h
 ·rw [Z7 hs, Z7 (by decide), Z7 (by decide), Z7 (by decide), Z7 (by decide), Z7 (by decide), Z7 (by decide), Z7 (by decide), Z7 (by decide), Z7 (by decide), ZY (rfl)] at h
  exact ⟨h, by omega⟩
theorem Qv {caps : Int} {Ze : Int -> Int -> Bool} {loc n : Int} {s : ByteArray} {k : Nat} (h : Zy caps Ze loc 23 n s k = true) : (decide (k = 0) && Y7 n 0 (caps - 1)) = true /\ (23 = 3 \/ s.size = 0) := by
 unfold Zy at h
 by_cases hs : (23 : Int) ≠ 3 /\ s.size ≠ 0
 ·rw [ZY hs] at h; cases h
 ·rw [Z7 hs, Z7 (by decide), Z7 (by decide), Z7 (by decide), Z7 (by decide), Z7 (by decide), Z7 (by decide), Z7 (by decide), Z7 (by decide), Z7 (by decide), Z7 (by decide), ZY (rfl)] at h
  exact ⟨h, by omega⟩
theorem Qu {caps : Int} {Ze : Int -> Int -> Bool} {loc n : Int} {s : ByteArray} {k : Nat} (h : Zy caps Ze loc 24 n s k = true) : (decide (k <= 1000) && Ze n k) = true /\ (24 = 3 \/ s.size = 0) := by
 unfold Zy at h
 by_cases hs : (24 : Int) ≠ 3 /\ s.size ≠ 0
 ·rw [ZY hs] at h; cases h
 ·rw [Z7 hs, Z7 (by decide), Z7 (by decide), Z7 (by decide), Z7 (by decide), Z7 (by decide), Z7 (by decide), Z7 (by decide), Z7 (by decide), Z7 (by decide), Z7 (by decide), Z7 (by decide), ZY (rfl)] at h
  exact ⟨h, by omega⟩
theorem xq {caps : Int} {Ze : Int -> Int -> Bool} {T : ByteArray -> Int} {loc op n : Int} {s : ByteArray} {k : Nat} (h : Zy caps Ze loc op n s k = true) (h9 : op ≠ 9) (h11 : op ≠ 11) (i : Ins) (hi : i = UW T op n s k) :
 Zb i.op = true /\ i.op ≠ 13 /\ i.op ≠ 14 /\ i.op ≠ 9 /\ (Ya i.op i.a i.b).2.2 = 0 /\ (Ya i.op i.a i.b).1 = k /\ (i.op = 16 \/ (Ya i.op i.a i.b).2.1 = 1) := by
 subst hi
 rcases Td h with rfl | rfl | rfl | rfl | rfl | rfl | rfl | rfl | rfl | rfl | rfl | rfl | rfl | rfl
 ·have := (NS h).1; simp only [Bool.and_eq_true, decide_eq_true_eq] at this; obtain ⟨rfl, _⟩ := this; simp [UW, Ya, Zb, Y7]
 ·have := (Sd h).1; simp only [Bool.and_eq_true, decide_eq_true_eq] at this; obtain ⟨rfl, _⟩ := this; simp [UW, Ya, Zb, Y7]
 ·have := (Jj h).1; simp only [Bool.and_eq_true, decide_eq_true_eq] at this
  have e : Y7 (k : Int) 0 1000 = true := by unfold Y7; simp only [Bool.and_eq_true, decide_eq_true_eq]; omega
  simp [UW, Ya, Zb, e]; simp [Y7]
 ·have := (L9 h).1; simp only [Bool.and_eq_true, decide_eq_true_eq] at this; obtain ⟨rfl, _⟩ := this; simp [UW, Ya, Zb, Y7]
 ·have := (L8 h).1; simp only [Bool.and_eq_true, decide_eq_true_eq] at this; obtain ⟨rfl, _⟩ := this; simp [UW, Ya, Zb, Y7]
 ·exact absurd rfl h9
 ·exact absurd rfl h11
 ·have := (Mw h).1; simp only [Bool.and_eq_true, decide_eq_true_eq] at this; obtain ⟨e, e2⟩ := this
  simp [UW, Ya, Zb, e, e2]; simp [Y7]
 ·have := (O4 h).1; simp only [Bool.and_eq_true, decide_eq_true_eq] at this; obtain ⟨rfl, _⟩ := this; simp [UW, Ya, Zb, Y7]
 ·have := (Qw h).1; simp only [Bool.and_eq_true, decide_eq_true_eq] at this; obtain ⟨rfl, _⟩ := this; simp [UW, Ya, Zb, Y7]
 ·have := (Mv h).1; simp only [Bool.and_eq_true, decide_eq_true_eq] at this; obtain ⟨rfl, _⟩ := this; simp [UW, Ya, Zb, Y7]
 ·have := (Qv h).1; simp only [Bool.and_eq_true, decide_eq_true_eq] at this; obtain ⟨rfl, _⟩ := this; simp [UW, Ya, Zb, Y7]
 ·have := (Qu h).1; simp only [Bool.and_eq_true, decide_eq_true_eq] at this
  have e : Y7 (k : Int) 0 1000 = true := by unfold Y7; simp only [Bool.and_eq_true, decide_eq_true_eq]; omega
  simp [UW, Ya, Zb, e]; simp [Y7]
 ·have := (O5 h).1; simp only [Bool.and_eq_true, decide_eq_true_eq] at this; obtain ⟨_, rfl⟩ := this; simp [UW, Ya, Zb, Y7]
theorem xk {caps : Int} {Ze : Int -> Int -> Bool} {C : List Ins} {T : ByteArray -> Int} : ∀ (l : List Z0) (a b : Int) (k p : Nat), (∀ y ∈ l, ∀ loc p, ZI caps Ze loc y = true -> YL C T loc y p -> ∀ o, o < ZU y -> Tx C p (dep y) (ZU y) o) ->
 ∀ loc, XF caps Ze a b l = true -> (a = loc /\ b = loc) -> Wy C T loc l p -> ∀ o, o < ZC l -> Tx C p (RY k l) (ZC l) o
 | [], _, _, _, _, _, _, _, _, _, o, ho => by simp [ZC] at ho
 | x :: r, a, b, k, p, ih, loc, hf, ⟨ha, hb⟩, hc, o, ho => by
   subst ha hb; unfold XF at hf; rw [Bool.and_eq_true] at hf; unfold Wy at hc; have e0 : ZC (x :: r) = ZU x + ZC r := Zm _ _; have hz : RY (k + 1) r 0 = k + 1 := D7 (k + 1) b b r (fun y _ loc hy => BF y loc hy) hf.2; by_cases h : o < ZU x
   ·have := (ih x (List.mem_cons_self ..) _ p hf.1 hc.1 o h).shift (p := p) (o := 0) (k := k) (D := RY k (x :: r)) (len := ZC (x :: r)) rfl (fun i hi => ?_) (Nat.le_of_lt h) (by omega)
    ·rw [Nat.zero_add] at this; exact this
    ·rw [Nat.zero_add]
     unfold RY; by_cases hi' : i < ZU x
     ·rw [ZY hi']
     ·obtain rfl : i = ZU x := by omega
      rw [Z7 (Nat.lt_irrefl _), Nat.sub_self, hz, O6 x _ hf.1]
   ·have := (xk r b b (k + 1) (p + ZU x) (fun y hy => ih y (List.mem_cons_of_mem _ hy)) b hf.2 ⟨rfl, rfl⟩ hc.2 (o - ZU x) (by omega)).shift (p := p) (o := ZU x) (k := 0) (D := RY k (x :: r)) (len := ZC (x :: r)) rfl (fun i hi => ?_) (by omega) (by omega)
    ·rw [show ZU x + (o - ZU x) = o by omega] at this; exact this
    ·conv => lhs; unfold RY
     rw [Z7 (by omega), show ZU x + i - ZU x = i by omega]; omega
theorem D6 (a b : Int) : Ya 13 a b = (1, 0, 0) := by simp [Ya]
theorem NR (a b : Int) : Ya 14 a b = (0, 0, 0) := by simp [Ya]
theorem xg (a b : Int) : Ya 4 a b = (1, 0, 0) := by simp [Ya]
theorem oq {caps : Int} {Ze : Int -> Int -> Bool} {C : List Ins} {T : ByteArray -> Int} : ∀ (l : List Z0) (loc : Int) (tab q e : Nat), (∀ y ∈ l, ∀ loc p, ZI caps Ze loc y = true -> YL C T loc y p -> ∀ o, o < ZU y -> Tx C p (dep y) (ZU y) o) ->
 XF caps Ze loc loc l = true -> Tz C T loc l tab q e -> e = q + (ZC l + l.length - 1) ->
 (∀ o, o < ZC l + l.length - 1 -> Tx C q (Q5 l) (ZC l + l.length - 1) o) /\ ∀ j, j < l.length -> ∃ o, o < ZC l + l.length - 1 /\ C[tab + j]? = some ⟨14, (q + o : Nat), 0⟩ /\ Q5 l o = 0
 | [], _, _, _, _, _, _, _, _ => ⟨fun o ho => by simp [ZC] at ho, fun j hj => by simp at hj⟩
 | y :: r, loc, tab, q, e, ih, hf, hc, he => by
   unfold XF at hf; rw [Bool.and_eq_true] at hf; unfold Tz at hc; obtain ⟨c0, c1, c2, c3⟩ := hc; have e0 : ZC (y :: r) = ZU y + ZC r := Zm _ _; have el : (y :: r).length = r.length + 1 := rfl; have hp := Te hf.1; have hend := O6 y _ hf.1; have D5 : ∀ i, i <= ZU y -> Q5 (y :: r) (0 + i) = 0 + dep y i := fun i hi => by
    rw [Nat.zero_add, Nat.zero_add]; unfold Q5; by_cases hi' : i < ZU y
    ·rw [ZY hi']
    ·obtain rfl : i = ZU y := by omega
     rw [Z7 (Nat.lt_irrefl _), ZY rfl, hend]
   have hl1 : ZU y <= ZC (y :: r) + (y :: r).length - 1 := by rw [e0, el]; omega
   have hrest : r ≠ [] -> (∀ o, o < ZC r + r.length - 1 -> Tx C (q + ZU y + 1) (Q5 r) (ZC r + r.length - 1) o) /\ ∀ j, j < r.length -> ∃ o, o < ZC r + r.length - 1 /\ C[tab + 1 + j]? = some ⟨14, (q + ZU y + 1 + o : Nat), 0⟩ /\ Q5 r o = 0 := fun hr =>
    oq r loc (tab + 1) (q + ZU y + 1) e (fun z hz => ih z (List.mem_cons_of_mem _ hz)) hf.2 c3 (by
     have : 0 < r.length := List.length_pos_iff.2 hr; rw [he, e0, el]; omega)
   refine ⟨fun o ho => ?_, fun j hj => ?_⟩
   ·by_cases h1 : o < ZU y
    ·have := (ih y (List.mem_cons_self ..) _ q hf.1 c1 o h1).shift (p := q) (o := 0) (k := 0) (D := Q5 (y :: r)) (len := ZC (y :: r) + (y :: r).length - 1) rfl D5 (Nat.le_of_lt h1) (by omega)
     rw [Nat.zero_add] at this; exact this
    ·have hr : r ≠ [] := by
      intro hr; subst hr; rw [e0, el] at ho; simp [ZC] at ho; omega
     have hrl : 0 < r.length := List.length_pos_iff.2 hr; by_cases h2 : o = ZU y
     ·subst h2
      unfold Tx Ma; rw [UU (c2 hr)]; refine ⟨rfl, fun h => absurd (show (14 : Int) = 13 from h) (by decide), by rw [NR], by rw [NR]; exact Int.natCast_nonneg _, fun t ht => ?_⟩; have ht' : t = (e : Int) := by simpa [KC] using ht
      refine ⟨ZC (y :: r) + (y :: r).length - 1, Nat.le_refl _, by rw [ht', he], ?_⟩; rw [NR, Mc loc (y :: r) (by unfold XF; rw [Bool.and_eq_true]; exact hf) (by simp)]; have := D5 (ZU y) (Nat.le_refl _); rw [Nat.zero_add, Nat.zero_add, hend] at this; rw [this]
     ·have hstep := ((hrest hr).1 (o - ZU y - 1) (by rw [e0, el] at ho; omega)).shift (p := q) (o := ZU y + 1) (k := 0) (D := Q5 (y :: r)) (len := ZC (y :: r) + (y :: r).length - 1) (by omega) (fun i hi => ?_) (by rw [e0, el] at ho; omega) (by rw [e0, el]; omega)
      ·rw [show ZU y + 1 + (o - ZU y - 1) = o by omega] at hstep; exact hstep
      ·conv => lhs; unfold Q5
       rw [Z7 (by omega), Z7 (by omega), show ZU y + 1 + i - ZU y - 1 = i by omega]; omega
   ·cases j with
    | zero =>
      refine ⟨0, by omega, by simpa using c0, ?_⟩; have := D5 0 (Nat.zero_le _); rw [Nat.zero_add, Nat.zero_add] at this; rw [this]; exact BF y _ hf.1
    | succ j =>
      have hr : r ≠ [] := by intro hr; subst hr; simp at hj
      have hrl : 0 < r.length := List.length_pos_iff.2 hr; obtain ⟨o, ho1, ho2, ho3⟩ := (hrest hr).2 j (by simpa using hj); refine ⟨ZU y + 1 + o, by rw [e0, el]; omega, ?_, ?_⟩
      ·rw [show tab + (j + 1) = tab + 1 + j by omega, ho2]
       rw [show q + (ZU y + 1 + o) = q + ZU y + 1 + o by omega]
      ·unfold Q5
       rw [Z7 (by omega), Z7 (by omega), show ZU y + 1 + o - ZU y - 1 = o by omega]; exact ho3
theorem GQ {C : List Ins} {p len o : Nat} {D : Nat -> Nat} {i : Ins} (h : C[p + o]? = some i) (hk : Zb i.op = true) (h13 : i.op ≠ 13) (h14 : i.op ≠ 14) (h9 : i.op ≠ 9) (he : (Ya i.op i.a i.b).2.2 = 0) (hp : (Ya i.op i.a i.b).1 <= D o)
 (hn : i.op = 16 \/ (o + 1 <= len /\ (D (o + 1) : Int) + (Ya i.op i.a i.b).1 = D o + (Ya i.op i.a i.b).2.1)) : Tx C p D len o := by
 unfold Tx Ma
 rw [UU h]
 refine ⟨hk, fun e => absurd e h13, he, hp, fun t ht => ?_⟩
 unfold KC at ht
 by_cases h16 : i.op = 16
 ·rw [ZY (.inr h16)] at ht; cases ht
 ·rw [Z7 (by rintro (h | h); exact h9 h; exact h16 h), Z7 h14, Z7 h13] at ht
  rcases hn with hn | ⟨hn, hd⟩
  ·exact absurd hn h16
  ·simp at ht
   exact ⟨o + 1, hn, by rw [ht]; push_cast; omega, hd⟩
theorem jy {caps : Int} {Ze : Int -> Int -> Bool} {C : List Ins} {T : ByteArray -> Int} (x : Z0) : ∀ (loc : Int) (p : Nat), ZI caps Ze loc x = true -> YL C T loc x p -> ∀ o, o < ZU x -> Tx C p (dep x) (ZU x) o := by
 induction x using Z0.induct with
 | h op n s lv l ih =>
   intro loc p hf hc o ho; have hf0 := hf; unfold ZI at hf; rw [Bool.and_eq_true] at hf; obtain ⟨h1, h2⟩ := hf; unfold YL at hc; by_cases e1 : op = 11
   ·subst e1
    rw [ZY rfl] at hc; have hl := TV h1; obtain ⟨x, y, rfl⟩ := O8 hl; unfold XF at h2; rw [Bool.and_eq_true] at h2; have hy : XF caps Ze (loc + bump 11) (loc + bump 11) [y] = true := h2.2; have hb : loc + bump 11 = loc + 1 := by rw [xw (.inr rfl)]
    rw [hb] at hy; unfold Ru at hc; obtain ⟨c0, c1, c2⟩ := hc; have e0 : ZC [x, y] = ZU x + ZC [y] := Zm _ _; have ex : ZU (.mk 11 n s lv [x, y]) = ZU x + ZC [y] + 1 := by rw [Xx, Z7 (by decide), e0]
    have ed : ∀ i, dep (.mk 11 n s lv [x, y]) i = Sg [x, y] i := fun i => by unfold dep; rw [ZY rfl]
    rw [ex] at ho ⊢; by_cases g1 : o < ZU x
    ·have := (ih x (by simp) _ p h2.1 c0 o g1).shift (p := p) (o := 0) (k := 0) (D := dep (.mk 11 n s lv [x, y])) (len := ZU x + ZC [y] + 1) rfl (fun i hi => ?_) (Nat.le_of_lt g1) (by omega)
     ·rw [Nat.zero_add] at this; exact this
     ·rw [Nat.zero_add, Nat.zero_add, ed]
      unfold Sg; by_cases hi' : i < ZU x
      ·rw [ZY hi']
      ·obtain rfl : i = ZU x := by omega
       rw [Z7 (Nat.lt_irrefl _), ZY rfl, O6 x _ h2.1]
    ·by_cases g2 : o = ZU x
     ·subst g2
      refine GQ c1 rfl (show (4 : Int) ≠ 13 by decide) (show (4 : Int) ≠ 14 by decide) (show (4 : Int) ≠ 9 by decide) (by rw [xg]) ?_ (.inr ⟨by omega, ?_⟩)
      ·rw [xg, ed]; unfold Sg; rw [Z7 (Nat.lt_irrefl _), ZY rfl]; decide
      ·rw [xg, ed, ed]; unfold Sg
       rw [Z7 (Nat.lt_irrefl _), ZY rfl, Z7 (by omega), Z7 (by omega), show ZU x + 1 - ZU x - 1 = 0 by omega, D7 0 (loc + 1) (loc + 1) [y] (fun z _ lo hz => BF z lo hz) hy]; rfl
     ·have := (xk [y] (loc + 1) (loc + 1) 0 (p + ZU x + 1) (fun z hz => ih z (by simp at hz; simp [hz])) (loc + 1) hy ⟨rfl, rfl⟩ c2 (o - ZU x - 1) (by omega)).shift (p := p) (o := ZU x + 1) (k := 0) (D := dep (.mk 11 n s lv [x, y])) (len := ZU x + ZC [y] + 1) (by omega) (fun i hi => ?_) (by omega) (by omega)
      ·rw [show ZU x + 1 + (o - ZU x - 1) = o by omega] at this; exact this
      ·rw [ed]; conv => lhs; unfold Sg
       rw [Z7 (by omega), Z7 (by omega), show ZU x + 1 + i - ZU x - 1 = i by omega]; omega
   ·rw [Z7 e1] at hc
    by_cases e2 : op = 9
    ·subst e2
     rw [ZY rfl] at hc; have hl := Mx h1; obtain ⟨x, r, rfl⟩ := Qx (by omega : 1 <= l.length); unfold XF at h2; rw [Bool.and_eq_true] at h2; have hb : loc + bump 9 = loc + 1 := by rw [xw (.inl rfl)]
     have hr := h2.2; rw [hb] at hr; unfold PV at hc; obtain ⟨c0, c1, c2⟩ := hc; have hrl : 1 <= r.length /\ r.length <= 1000 := by simp only [List.length_cons] at hl; omega
     have e0 : ZC (x :: r) = ZU x + ZC r := Zm _ _; have ex : ZU (.mk 9 n s lv (x :: r)) = ZU x + ZC r + 2 * r.length := by rw [Xx, ZY rfl, e0]; simp
     have ed : ∀ i, dep (.mk 9 n s lv (x :: r)) i = QX (x :: r) i := fun i => by unfold dep; rw [Z7 (by decide), ZY rfl]
     rw [ex] at ho ⊢; obtain ⟨sB, sT⟩ := oq r (loc + 1) (p + ZU x + 1) (p + ZU x + 1 + r.length) _ (fun z hz => ih z (List.mem_cons_of_mem _ hz)) hr c2 (by omega); by_cases g1 : o < ZU x
     ·have := (ih x (by simp) _ p h2.1 c0 o g1).shift (p := p) (o := 0) (k := 0) (D := dep (.mk 9 n s lv (x :: r))) (len := ZU x + ZC r + 2 * r.length) rfl (fun i hi => ?_) (Nat.le_of_lt g1) (by omega)
      ·rw [Nat.zero_add] at this; exact this
      ·rw [Nat.zero_add, Nat.zero_add, ed]
       unfold QX; by_cases hi' : i < ZU x
       ·rw [ZY hi']
       ·obtain rfl : i = ZU x := by omega
        rw [Z7 (Nat.lt_irrefl _), ZY rfl, O6 x _ h2.1]
     ·by_cases g2 : o = ZU x
      ·subst g2
       unfold Tx Ma; rw [UU c1]; refine ⟨rfl, fun _ => by simp [Y7]; omega, by rw [D6], ?_, fun t ht => ?_⟩
       ·rw [D6, ed]; unfold QX; rw [Z7 (Nat.lt_irrefl _), ZY rfl]; decide
       ·have ht' : ∃ j, j < r.length /\ ((p + ZU x : Nat) : Int) + 1 + j = t := by simpa [KC] using ht
        obtain ⟨j, hj, rfl⟩ := ht'; refine ⟨ZU x + 1 + j, by omega, by push_cast; omega, ?_⟩; rw [D6, ed, ed]; unfold QX; rw [Z7 (Nat.lt_irrefl _), ZY rfl, Z7 (by omega), Z7 (by omega), ZY (by omega)]; rfl
      ·by_cases g3 : o < ZU x + 1 + r.length
       ·obtain ⟨j, hj⟩ : ∃ j, j = o - ZU x - 1 := ⟨_, rfl⟩
        obtain ⟨o2, a1, a2, a3⟩ := sT j (by omega); unfold Tx Ma; rw [show p + o = p + ZU x + 1 + j by omega, UU a2]; refine ⟨rfl, fun h => absurd (show (14 : Int) = 13 from h) (by decide), by rw [NR], by rw [NR]; exact Int.natCast_nonneg _, fun t ht => ?_⟩; have ht' : t = ((p + ZU x + 1 + r.length + o2 : Nat) : Int) := by simpa [KC] using ht
        refine ⟨ZU x + 1 + r.length + o2, by omega, by rw [ht']; push_cast; omega, ?_⟩; rw [NR, ed, ed]; unfold QX; rw [Z7 (by omega), Z7 (by omega), Z7 (by omega), show ZU x + 1 + r.length + o2 - ZU x - 1 - r.length = o2 by omega, a3, Z7 (by omega), Z7 (by omega), ZY (by omega)]
       ·have := (sB (o - ZU x - 1 - r.length) (by omega)).shift (p := p) (o := ZU x + 1 + r.length) (k := 0) (D := dep (.mk 9 n s lv (x :: r))) (len := ZU x + ZC r + 2 * r.length) (by omega) (fun i hi => ?_) (by omega) (by omega)
        ·rw [show ZU x + 1 + r.length + (o - ZU x - 1 - r.length) = o by omega] at this; exact this
        ·rw [ed]; conv => lhs; unfold QX
         rw [Z7 (by omega), Z7 (by omega), Z7 (by omega), show ZU x + 1 + r.length + i - ZU x - 1 - r.length = i by omega]; omega
    ·rw [Z7 e2] at hc
     have ex : ZU (.mk op n s lv l) = ZC l + 1 := by rw [Xx, Z7 e2]
     have ed : ∀ i, dep (.mk op n s lv l) i = RY 0 l i := fun i => by unfold dep; rw [Z7 e1, Z7 e2]
     have hb : loc + bump op = loc := by rw [xA e2 e1]; omega
     rw [hb] at h2; rw [ex] at ho ⊢; by_cases g1 : o < ZC l
     ·have := (xk l loc loc 0 p ih loc h2 ⟨rfl, rfl⟩ hc.1 o g1).shift (p := p) (o := 0) (k := 0) (D := dep (.mk op n s lv l)) (len := ZC l + 1) rfl (fun i hi => by rw [Nat.zero_add, Nat.zero_add, ed]) (Nat.le_of_lt g1) (by omega)
      rw [Nat.zero_add] at this; exact this
     ·obtain rfl : o = ZC l := by omega
      obtain ⟨k1, k2, k3, k4, k5, k6, k7⟩ := xq h1 e2 e1 _ rfl; obtain ⟨d1, d2⟩ := O7 0 loc loc l h2; refine GQ hc.2 k1 k2 k3 k4 k5 ?_ ?_
      ·rw [k6, ed, d1]; simp
      ·rcases k7 with k7 | k7
       ·exact .inl k7
       ·exact .inr ⟨Nat.le_refl _, by rw [k6, k7, ed, ed, d1, d2]; push_cast; omega⟩
theorem X6 (x : Z0) (r : List Z0) : Yv (x :: r) = YO x + Yv r := by rw [Yv]
theorem VP : Yv [] = 0 := by rw [Yv]
theorem Wv (op n : Int) (s : ByteArray) (v : Value) (l : List Z0) : YO (.mk op n s v l) = Yv l + 1 := by rw [YO]
theorem U6 (x : Z0) : 1 <= YO x := by cases x; rw [Wv]; omega
theorem Ji : ∀ (l : List Z0) (k o : Nat), (∀ y ∈ l, ∀ o, dep y o <= YO y) -> RY k l o <= k + Yv l + 1
 | [], k, o, _ => by unfold RY; split <;> omega
 | x :: r, k, o, h => by
   unfold RY; rw [X6]; have := h x (List.mem_cons_self ..) o; have hx := U6 x; split
   ·omega
   ·have := Ji r (k + 1) (o - ZU x) (fun y hy => h y (List.mem_cons_of_mem _ hy))
    omega
theorem BD : ∀ (l : List Z0) (o : Nat), (∀ y ∈ l, ∀ o, dep y o <= YO y) -> Q5 l o <= Yv l + 1
 | [], o, _ => by unfold Q5; omega
 | x :: r, o, h => by
   unfold Q5; rw [X6]; have := h x (List.mem_cons_self ..) o; have hx := U6 x; split
   ·omega
   ·split
    ·omega
    ·have := BD r (o - ZU x - 1) (fun y hy => h y (List.mem_cons_of_mem _ hy))
     omega
theorem mQ (x : Z0) : ∀ o, dep x o <= YO x := by
 induction x using Z0.induct with
 | h op n s lv l ih =>
   intro o; rw [Wv]; unfold dep; split
   ·cases l with
    | nil => unfold Sg; omega
    | cons x r =>
      unfold Sg; rw [X6]; have := ih x (List.mem_cons_self ..) o; have hx := U6 x; split
      ·omega
      ·split
       ·omega
       ·have := Ji r 0 (o - ZU x - 1) (fun y hy => ih y (List.mem_cons_of_mem _ hy))
        omega
   ·split
    ·cases l with
     | nil => unfold QX; omega
     | cons x r =>
       unfold QX; rw [X6]; have := ih x (List.mem_cons_self ..) o; have hx := U6 x; split
       ·omega
       ·split
        ·omega
        ·split
         ·omega
         ·have := BD r (o - ZU x - 1 - r.length) (fun y hy => ih y (List.mem_cons_of_mem _ hy))
          omega
    ·have := Ji l 0 o ih
     omega
def Whole (C : List Ins) (T : ByteArray -> Int) (x : Z0) : Prop := YL C T 1 x 0 /\ C.length = ZU x + 1 /\ C[ZU x]? = some ⟨9, 0, 0⟩
theorem wZ (C : List Ins) (p : Nat) (hp : p < C.length) (hk : Zb (C.getD p default).op = true) (h13 : (C.getD p default).op = 13 -> Y7 (C.getD p default).b 1 1000 = true)
 (ht : ∀ t ∈ KC (C.getD p default) p, 0 <= t /\ t < C.length) : MJ C p = (KC (C.getD p default) p, 0) := by
 unfold MJ
 rw [Z7 (by omega)]
 simp only [Int.toNat_natCast]
 rw [Z7 (by rw [hk]; decide), Z7 (by rintro ⟨a, b⟩; rw [h13 a] at b; cases b), if_neg]
 rw [List.any_eq_true]
 rintro ⟨t, h1, h2⟩
 have := ht t h1
 unfold Rw Y7 at h2
 simp at h2
 omega
theorem J4 {caps : Int} {Ze : Int -> Int -> Bool} {C : List Ins} {T : ByteArray -> Int} {x : Z0} (hf : ZI caps Ze 1 x = true) (h : Whole C T x) (p : Nat) (hp : p <= ZU x) :
 Pb C p (dep x p) /\ ∀ t ∈ Rv C p, t.toNat <= ZU x /\ O9 C p (dep x p) = dep x t.toNat := by
 obtain ⟨hc, hl, hr⟩ := h
 by_cases h1 : p < ZU x
 ·have hs := jy x 1 0 hf hc p h1
  unfold Tx Ma at hs; rw [Nat.zero_add] at hs; obtain ⟨k0, k1, k2, k3, k4⟩ := hs; have e := wZ C p (by omega) k0 k1 (fun t ht => by obtain ⟨o', a, b, _⟩ := k4 t ht; omega); refine ⟨⟨k2, by unfold mV; rw [e], k3⟩, fun t ht => ?_⟩; unfold Rv at ht; rw [e] at ht; obtain ⟨o', a, b, c⟩ := k4 t ht; have hto : t.toNat = o' := by omega
  rw [hto]; refine ⟨a, ?_⟩; unfold O9 pops pushes; omega
 ·obtain rfl : p = ZU x := by omega
  have hg := UU hr; have e := wZ C (ZU x) (by omega) (by rw [hg]; rfl) (fun h => by rw [hg] at h; exact absurd (show (9 : Int) = 13 from h) (by decide)) (fun t ht => by rw [hg] at ht; simp [KC] at ht); have e2 : KC (C.getD (ZU x) default) (ZU x) = [] := by rw [hg]; simp [KC]
  rw [e2] at e; refine ⟨⟨?_, by unfold mV; rw [e], ?_⟩, fun t ht => ?_⟩
  ·unfold qZ; rw [hg]; rfl
  ·unfold pops; rw [hg, O6 x _ hf]; decide
  ·unfold Rv at ht; rw [e] at ht; cases ht
theorem Rq {caps : Int} {Ze : Int -> Int -> Bool} {C : List Ins} {T : ByteArray -> Int} {x : Z0} (hf : ZI caps Ze 1 x = true) (h : Whole C T x) {p : Nat} {d : Int} (hr : Reach C p d) : p <= ZU x /\ d = dep x p := by
 induction hr with
 | start => exact ⟨Nat.zero_le _, by rw [BF x _ hf]; rfl⟩
 | step _ _ ht ih =>
   obtain ⟨i1, i2⟩ := ih; have := (J4 hf h _ i1).2 _ ht; exact ⟨this.1, by rw [i2]; exact this.2⟩
theorem L6 {caps : Int} {Ze : Int -> Int -> Bool} {C : List Ins} {T : ByteArray -> Int} {x : Z0} (hf : ZI caps Ze 1 x = true) (h : Whole C T x) {r e : Int} (hd : TA C r e) : e = 0 /\ 0 <= r /\ r <= (YO x : Int) + 1 := by
 unfold TA at hd
 have hl := h.2.1
 rw [Z7 (by omega)] at hd
 rcases hd with ⟨_, _, hb⟩ | ⟨rfl, _, m0, _, m2⟩
 ·exfalso
  rcases hb with ⟨a, d, hr, hno⟩ | ⟨a, d, d', hr, hr', hne⟩
  ·obtain ⟨i1, i2⟩ := Rq hf h hr
   exact hno (i2 ▸ (J4 hf h _ i1).1)
  ·exact hne ((Rq hf h hr).2.trans (Rq hf h hr').2.symm)
 ·refine ⟨rfl, m0, ?_⟩
  rcases m2 with rfl | ⟨a, d, hr, hm⟩
  ·omega
  ·obtain ⟨i1, i2⟩ := Rq hf h hr
   have := mQ x a; have hb := QY C a; unfold O9 at hm; omega
theorem BA (x : Z0) : ZU x + 2 <= 3 * YO x := by
 induction x using Z0.induct with
 | h op n s lv l ih =>
   have hL : ∀ l : List Z0, (∀ y ∈ l, ZU y + 2 <= 3 * YO y) -> ZC l + 2 * l.length <= 3 * Yv l := fun l => by
    induction l with
    | nil => intro _; rw [Yi, VP]; simp
    | cons x r ih2 =>
      intro h; have := ih2 fun y hy => h y (List.mem_cons_of_mem _ hy)
      have h1 := h x (List.mem_cons_self ..); rw [Zm, X6, List.length_cons]; omega
   rw [Xx, Wv]; have := hL l ih; split <;> omega
end Go.Proofs.YtbcfdebdikgijaaGreatDoor
