/- Part of the proof; its texts: Cs3 Cs4. -/
import Derived.Test.YtbcfdebdikgijaaGreatDoorS4
set_option maxRecDepth 100000
set_option linter.unusedVariables false
set_option linter.unusedSimpArgs false
set_option maxHeartbeats 2000000
namespace Go.Proofs.YtbcfdebdikgijaaGreatDoor
open Go Go.RowKit
theorem Bf {caps : Int} {Ze : Int -> Int -> Bool} {loc n : Int} {s : ByteArray} {k : Nat} (hs : (2 : Int) = 3 \/ s.size = 0) : Zy caps Ze loc 2 n s k = (decide (k = 0) && Y7 n (-4503599627370496) 4503599627370496) := by
 unfold Zy
 rw [Z7 (by omega), ZY (rfl)]
theorem Bd {caps : Int} {Ze : Int -> Int -> Bool} {loc n : Int} {s : ByteArray} {k : Nat} (hs : (3 : Int) = 3 \/ s.size = 0) : Zy caps Ze loc 3 n s k = (decide (k = 0) && (decide (n = 0) && decide (s.size <= 16384))) := by
 unfold Zy
 rw [Z7 (by omega), Z7 (by decide), ZY (rfl)]
theorem Bc {caps : Int} {Ze : Int -> Int -> Bool} {loc n : Int} {s : ByteArray} {k : Nat} (hs : (6 : Int) = 3 \/ s.size = 0) : Zy caps Ze loc 6 n s k = (decide (n = 0) && decide (k <= 1000)) := by
 unfold Zy
 rw [Z7 (by omega), Z7 (by decide), Z7 (by decide), ZY (rfl)]
theorem Bb {caps : Int} {Ze : Int -> Int -> Bool} {loc n : Int} {s : ByteArray} {k : Nat} (hs : (7 : Int) = 3 \/ s.size = 0) : Zy caps Ze loc 7 n s k = (decide (k = 1) && Y7 n 0 999) := by
 unfold Zy
 rw [Z7 (by omega), Z7 (by decide), Z7 (by decide), Z7 (by decide), ZY (.inl rfl)]
theorem Ba {caps : Int} {Ze : Int -> Int -> Bool} {loc n : Int} {s : ByteArray} {k : Nat} (hs : (8 : Int) = 3 \/ s.size = 0) : Zy caps Ze loc 8 n s k = (decide (k = 1) && Y7 n 0 999) := by
 unfold Zy
 rw [Z7 (by omega), Z7 (by decide), Z7 (by decide), Z7 (by decide), ZY (.inr rfl)]
theorem A9 {caps : Int} {Ze : Int -> Int -> Bool} {loc n : Int} {s : ByteArray} {k : Nat} (hs : (9 : Int) = 3 \/ s.size = 0) : Zy caps Ze loc 9 n s k = (decide (n = 0) && Y7 k 2 1001) := by
 unfold Zy
 rw [Z7 (by omega), Z7 (by decide), Z7 (by decide), Z7 (by decide), Z7 (by decide), ZY (rfl)]
theorem Gl {caps : Int} {Ze : Int -> Int -> Bool} {loc n : Int} {s : ByteArray} {k : Nat} (hs : (11 : Int) = 3 \/ s.size = 0) : Zy caps Ze loc 11 n s k = (decide (n = 0) && decide (k = 2)) := by
 unfold Zy
 rw [Z7 (by omega), Z7 (by decide), Z7 (by decide), Z7 (by decide), Z7 (by decide), Z7 (by decide), ZY (.inl rfl)]
theorem Gj {caps : Int} {Ze : Int -> Int -> Bool} {loc n : Int} {s : ByteArray} {k : Nat} (hs : (25 : Int) = 3 \/ s.size = 0) : Zy caps Ze loc 25 n s k = (decide (n = 0) && decide (k = 2)) := by
 unfold Zy
 rw [Z7 (by omega), Z7 (by decide), Z7 (by decide), Z7 (by decide), Z7 (by decide), Z7 (by decide), ZY (.inr rfl)]
theorem Gi {caps : Int} {Ze : Int -> Int -> Bool} {loc n : Int} {s : ByteArray} {k : Nat} (hs : (12 : Int) = 3 \/ s.size = 0) : Zy caps Ze loc 12 n s k = (Y7 n 1 14 && decide ((k : Int) = ZA n)) := by
 unfold Zy
 rw [Z7 (by omega), Z7 (by decide), Z7 (by decide), Z7 (by decide), Z7 (by decide), Z7 (by decide), Z7 (by decide), ZY (rfl)]
theorem Gh {caps : Int} {Ze : Int -> Int -> Bool} {loc n : Int} {s : ByteArray} {k : Nat} (hs : (13 : Int) = 3 \/ s.size = 0) : Zy caps Ze loc 13 n s k = (decide (k = 0) && Y7 n 1 1000000) := by
 unfold Zy
 rw [Z7 (by omega), Z7 (by decide), Z7 (by decide), Z7 (by decide), Z7 (by decide), Z7 (by decide), Z7 (by decide), Z7 (by decide), ZY (rfl)]
theorem Gg {caps : Int} {Ze : Int -> Int -> Bool} {loc n : Int} {s : ByteArray} {k : Nat} (hs : (21 : Int) = 3 \/ s.size = 0) : Zy caps Ze loc 21 n s k = (decide (k = 0) && Y7 n 0 (loc - 1)) := by
 unfold Zy
 rw [Z7 (by omega), Z7 (by decide), Z7 (by decide), Z7 (by decide), Z7 (by decide), Z7 (by decide), Z7 (by decide), Z7 (by decide), Z7 (by decide), ZY (rfl)]
theorem Gf {caps : Int} {Ze : Int -> Int -> Bool} {loc n : Int} {s : ByteArray} {k : Nat} (hs : (22 : Int) = 3 \/ s.size = 0) : Zy caps Ze loc 22 n s k = (decide (k = 0) && decide (n = 0)) := by
 unfold Zy
 rw [Z7 (by omega), Z7 (by decide), Z7 (by decide), Z7 (by decide), Z7 (by decide), Z7 (by decide), Z7 (by decide), Z7 (by decide), Z7 (by decide), Z7 (by decide), ZY (rfl)]
theorem Gd {caps : Int} {Ze : Int -> Int -> Bool} {loc n : Int} {s : ByteArray} {k : Nat} (hs : (23 : Int) = 3 \/ s.size = 0) : Zy caps Ze loc 23 n s k = (decide (k = 0) && Y7 n 0 (caps - 1)) := by
 unfold Zy
 rw [Z7 (by omega), Z7 (by decide), Z7 (by decide), Z7 (by decide), Z7 (by decide), Z7 (by decide), Z7 (by decide), Z7 (by decide), Z7 (by decide), Z7 (by decide), Z7 (by decide), ZY (rfl)]
theorem QT {caps : Int} {Ze : Int -> Int -> Bool} {loc n : Int} {s : ByteArray} {k : Nat} (hs : (24 : Int) = 3 \/ s.size = 0) : Zy caps Ze loc 24 n s k = (decide (k <= 1000) && Ze n k) := by
 unfold Zy
 rw [Z7 (by omega), Z7 (by decide), Z7 (by decide), Z7 (by decide), Z7 (by decide), Z7 (by decide), Z7 (by decide), Z7 (by decide), Z7 (by decide), Z7 (by decide), Z7 (by decide), Z7 (by decide), ZY (rfl)]
theorem Mt {caps : Int} {Ze : Int -> Int -> Bool} {loc n : Int} {s : ByteArray} {k : Nat} {op : Int} (h1 : op ≠ 3) (h2 : s.size ≠ 0) : Zy caps Ze loc op n s k = false := by
 unfold Zy; rw [if_pos ⟨h1, h2⟩]
theorem Gc {caps : Int} {Ze : Int -> Int -> Bool} {loc n : Int} {s : ByteArray} {k : Nat} {op : Int} (h : ¬ (op = 2 \/ op = 3 \/ op = 6 \/ op = 7 \/ op = 8 \/ op = 9 \/ op = 11 \/ op = 12 \/ op = 13 \/ op = 21 \/ op = 22 \/ op = 23 \/ op = 24 \/ op = 25)) : Zy caps Ze loc op n s k = false := by
 cases hb : Zy caps Ze loc op n s k
 ·rfl
 ·exact absurd (Td hb) h
theorem YN {s : ByteArray} (h : s.size = 0) : s = ⟨#[]⟩ := by
 cases s with
 | mk d => congr 1; exact Array.eq_empty_of_size_eq_zero h
theorem Xt {s : ByteArray} (h : s.size ≠ 0) : s.toList.isEmpty = false /\ ¬ s.toList = [] /\ s ≠ ⟨#[]⟩ := by
 have h1 : ¬ s.toList = [] := fun e => h (by
  have h2 : s.toList.length = s.size := by rw [ByteArray.toList_eq, Array.length_toList]; rfl
  rw [e] at h2; exact h2.symm)
 refine ⟨?_, h1, fun e => h (by rw [e]; rfl)⟩
 cases hl : s.toList with
 | nil => exact absurd hl h1
 | cons _ _ => rfl
theorem SS (n : Int) (w : World) : Calls Tryz.prog 113 #[.int .i64 n] w fun e w' => e = .returned (.int .i64 (ZA n)) /\ w = w' := by
 go_in
 go_wp2
 all_goals
  go_ret; refine ⟨Wi ?_, rfl⟩; simp only [beq_iff_eq, beq_eq_false_iff_ne, ne_eq] at *; unfold ZA
  repeat' split
  all_goals omega
def Uy (op part : Int) : Bool := (op == 11 || op == 9) && decide (0 < part)
theorem LD (op part : Int) (w : World) : Calls Tryz.prog 93 #[.int .i64 op, .int .i64 part] w fun e w' => e = .returned (.bool (Uy op part)) /\ w = w' := by
 go_in
 go_wp2
 all_goals
  go_ret; refine ⟨XT ?_, rfl⟩; unfold Uy; simp_all
def Yn (b : Bool) (w : World) (e : Ending) (w' : World) : Prop := e = .returned (.bool b) /\ Below w.heap.size w w'
theorem YP (op n : Int) (s : ByteArray) (v : Value) (w : World) : Below w.heap.size w (w.alloc (.cells #[.int .i64 op, .int .i64 n, .string s, v] 36)) := (Below.refl _ _).alloc (Nat.le_refl _) _
theorem Dy (cb : Nat) (caps : Int) (cf : Value) (Ze : Int -> Int -> Bool) (n loc : Int) (s : ByteArray) (a : Option Addr) (k c : Nat) (w : World) (op : Int) (h1 : op ≠ 3) (hs : s.size ≠ 0) :
 Calls Tryz.prog 98 #[.pointer (some ⟨cb, 0, none⟩), .agg #[.int .i64 op, .int .i64 n, .string s, .slice a k c], .int .i64 loc] w (Yn (Zy caps Ze loc op n s k) w) := by
 have hb := YP op n s (.slice a k c) w
 have hE : Hid (Zy caps Ze loc op n s k = false) := Mt h1 hs
 obtain ⟨s1, s2, s3⟩ := Xt hs
 have o1 : (op == 3) = false := Zt h1
 go_in
 go_wp2
 go_ret
 exact ⟨by rw [hE.out]; rfl, hb⟩
theorem Dx (cb : Nat) (caps : Int) (cf : Value) (Ze : Int -> Int -> Bool) (n loc : Int) (s : ByteArray) (a : Option Addr) (k c : Nat) (w : World) (hs : s.size = 0) :
 Calls Tryz.prog 98 #[.pointer (some ⟨cb, 0, none⟩), .agg #[.int .i64 2, .int .i64 n, .string s, .slice a k c], .int .i64 loc] w (Yn (Zy caps Ze loc 2 n s k) w) := by
 have hb := YP 2 n s (.slice a k c) w
 have hE : Hid (Zy caps Ze loc 2 n s k = _) := Bf (.inr hs)
 obtain rfl := YN hs
 clear hs
 by_cases h0 : k = 0
 ·subst h0
  go_in; go_wp2_with fail; refine (YU _ _ _ _).mono ?_; rintro e w' ⟨rfl, rfl⟩; go_wp2; go_ret; exact ⟨by rw [hE.out]; rfl, hb⟩
 ·have h1 : ¬ (k : Int) = 0 := by omega
  have h2 : ((k : Int) == 0) = false := Zt h1; have h3 : decide (k = 0) = false := YR h0; go_in; go_wp2; go_ret; exact ⟨by rw [hE.out]; rw [h3]; rfl, hb⟩
theorem Gb (cb : Nat) (caps : Int) (cf : Value) (Ze : Int -> Int -> Bool) (n loc : Int) (s : ByteArray) (a : Option Addr) (k c : Nat) (w : World) (hs : s.size = 0) :
 Calls Tryz.prog 98 #[.pointer (some ⟨cb, 0, none⟩), .agg #[.int .i64 13, .int .i64 n, .string s, .slice a k c], .int .i64 loc] w (Yn (Zy caps Ze loc 13 n s k) w) := by
 have hb := YP 13 n s (.slice a k c) w
 have hE : Hid (Zy caps Ze loc 13 n s k = _) := Gh (.inr hs)
 obtain rfl := YN hs
 clear hs
 by_cases h0 : k = 0
 ·subst h0
  go_in; go_wp2_with fail; refine (YU _ _ _ _).mono ?_; rintro e w' ⟨rfl, rfl⟩; go_wp2; go_ret; exact ⟨by rw [hE.out]; rfl, hb⟩
 ·have h1 : ¬ (k : Int) = 0 := by omega
  have h2 : ((k : Int) == 0) = false := Zt h1; have h3 : decide (k = 0) = false := YR h0; go_in; go_wp2; go_ret; exact ⟨by rw [hE.out]; rw [h3]; rfl, hb⟩
theorem Ga (cb : Nat) (caps : Int) (cf : Value) (Ze : Int -> Int -> Bool) (n loc : Int) (s : ByteArray) (a : Option Addr) (k c : Nat) (w : World) (hs : s.size = 0) (hl0 : 0 <= loc) (hl1 : loc <= 1000000) :
 Calls Tryz.prog 98 #[.pointer (some ⟨cb, 0, none⟩), .agg #[.int .i64 21, .int .i64 n, .string s, .slice a k c], .int .i64 loc] w (Yn (Zy caps Ze loc 21 n s k) w) := by
 have hb := YP 21 n s (.slice a k c) w
 have hE : Hid (Zy caps Ze loc 21 n s k = _) := Gg (.inr hs)
 obtain rfl := YN hs
 clear hs
 by_cases h0 : k = 0
 ·subst h0
  go_in; go_wp2_with fail; refine (YU _ _ _ _).mono ?_; rintro e w' ⟨rfl, rfl⟩; go_wp2; go_ret; exact ⟨by rw [hE.out]; rfl, hb⟩
 ·have h1 : ¬ (k : Int) = 0 := by omega
  have h2 : ((k : Int) == 0) = false := Zt h1; have h3 : decide (k = 0) = false := YR h0; go_in; go_wp2; go_ret; exact ⟨by rw [hE.out]; rw [h3]; rfl, hb⟩
theorem F9 (cb : Nat) (caps : Int) (cf : Value) (Ze : Int -> Int -> Bool) (n loc : Int) (s : ByteArray) (a : Option Addr) (k c : Nat) (w : World) (hs : s.size = 0) :
 Calls Tryz.prog 98 #[.pointer (some ⟨cb, 0, none⟩), .agg #[.int .i64 22, .int .i64 n, .string s, .slice a k c], .int .i64 loc] w (Yn (Zy caps Ze loc 22 n s k) w) := by
 have hb := YP 22 n s (.slice a k c) w
 have hE : Hid (Zy caps Ze loc 22 n s k = _) := Gf (.inr hs)
 obtain rfl := YN hs
 clear hs
 by_cases h0 : k = 0
 ·subst h0
  by_cases hn : n = 0
  ·subst hn
   go_in; go_wp2; go_ret; exact ⟨by rw [hE.out]; rfl, hb⟩
  ·have n1 : (n == 0) = false := Zt hn
   have n2 : decide (n = 0) = false := YR hn; go_in; go_wp2; go_ret; exact ⟨by rw [hE.out]; rw [n2]; rfl, hb⟩
 ·have h1 : ¬ (k : Int) = 0 := by omega
  have h2 : ((k : Int) == 0) = false := Zt h1; have h3 : decide (k = 0) = false := YR h0; go_in; go_wp2; go_ret; exact ⟨by rw [hE.out]; rw [h3]; rfl, hb⟩
theorem F8 (cb : Nat) (caps : Int) (cf : Value) (Ze : Int -> Int -> Bool) (n loc : Int) (s : ByteArray) (a : Option Addr) (k c : Nat) (w : World) (hs : s.size = 0) (hC : w.heap[cb]? = some (.cells #[.int .i64 caps, cf] 145 (0, 0))) (hc0 : 0 <= caps) (hc1 : caps <= 1000) :
 Calls Tryz.prog 98 #[.pointer (some ⟨cb, 0, none⟩), .agg #[.int .i64 23, .int .i64 n, .string s, .slice a k c], .int .i64 loc] w (Yn (Zy caps Ze loc 23 n s k) w) := by
 have hb := YP 23 n s (.slice a k c) w
 have hE : Hid (Zy caps Ze loc 23 n s k = _) := Gd (.inr hs)
 obtain rfl := YN hs
 clear hs
 have hg := Z8 w (.cells #[.int .i64 23, .int .i64 n, .string ⟨#[]⟩, .slice a k c] 36)
 have hC2 := (hg.block _ (Z6 hC) (by nofun)).trans hC
 have g0 : (w.alloc (.cells #[.int .i64 23, .int .i64 n, .string ⟨#[]⟩, .slice a k c] 36)).cell? ⟨cb, 0, none⟩ = some (.int .i64 caps) := by simp only [World.cell?, hC2]; rfl
 clear hC hC2 hg
 obtain ⟨bb, hbb⟩ : ∃ bb, Y7 n 0 (caps - 1) = bb := ⟨_, rfl⟩
 have VU := Z9 hbb
 by_cases h0 : k = 0
 ·subst h0
  go_in; go_wp2_with fail; go_quiet ((go_at_call 47; exact Calls.quiet_of_same ((YU _ _ _ _).mono fun _ _ h => ⟨by rw [h.1, hbb], h.2.symm⟩))); go_wp2; go_ret; refine ⟨by rw [hE.out, VU.out]; rfl, UY hb _⟩
 ·have h1 : ¬ (k : Int) = 0 := by omega
  have h2 : ((k : Int) == 0) = false := Zt h1; have h3 : decide (k = 0) = false := YR h0; go_in; go_wp2_with fail; go_quiet (fail); go_wp2; go_ret; exact ⟨by rw [hE.out, h3]; rfl, UY hb _⟩
theorem Dw (cb : Nat) (caps : Int) (cf : Value) (Ze : Int -> Int -> Bool) (n loc : Int) (s : ByteArray) (a : Option Addr) (k c : Nat) (w : World) (hs : s.size = 0) :
 Calls Tryz.prog 98 #[.pointer (some ⟨cb, 0, none⟩), .agg #[.int .i64 7, .int .i64 n, .string s, .slice a k c], .int .i64 loc] w (Yn (Zy caps Ze loc 7 n s k) w) := by
 have hb := YP 7 n s (.slice a k c) w
 have hE : Hid (Zy caps Ze loc 7 n s k = _) := Bb (.inr hs)
 obtain rfl := YN hs
 clear hs
 by_cases h0 : k = 1
 ·subst h0
  go_in; go_wp2_with fail; refine (YU _ _ _ _).mono ?_; rintro e w' ⟨rfl, rfl⟩; go_wp2; go_ret; exact ⟨by rw [hE.out]; rfl, hb⟩
 ·have h1 : ¬ (k : Int) = 1 := by omega
  have h2 : ((k : Int) == 1) = false := Zt h1; have h3 : decide (k = 1) = false := YR h0; go_in; go_wp2; go_ret; exact ⟨by rw [hE.out]; rw [h3]; rfl, hb⟩
theorem Dv (cb : Nat) (caps : Int) (cf : Value) (Ze : Int -> Int -> Bool) (n loc : Int) (s : ByteArray) (a : Option Addr) (k c : Nat) (w : World) (hs : s.size = 0) :
 Calls Tryz.prog 98 #[.pointer (some ⟨cb, 0, none⟩), .agg #[.int .i64 8, .int .i64 n, .string s, .slice a k c], .int .i64 loc] w (Yn (Zy caps Ze loc 8 n s k) w) := by
 have hb := YP 8 n s (.slice a k c) w
 have hE : Hid (Zy caps Ze loc 8 n s k = _) := Ba (.inr hs)
 obtain rfl := YN hs
 clear hs
 by_cases h0 : k = 1
 ·subst h0
  go_in; go_wp2_with fail; refine (YU _ _ _ _).mono ?_; rintro e w' ⟨rfl, rfl⟩; go_wp2; go_ret; exact ⟨by rw [hE.out]; rfl, hb⟩
 ·have h1 : ¬ (k : Int) = 1 := by omega
  have h2 : ((k : Int) == 1) = false := Zt h1; have h3 : decide (k = 1) = false := YR h0; go_in; go_wp2; go_ret; exact ⟨by rw [hE.out]; rw [h3]; rfl, hb⟩
theorem Du (cb : Nat) (caps : Int) (cf : Value) (Ze : Int -> Int -> Bool) (n loc : Int) (s : ByteArray) (a : Option Addr) (k c : Nat) (w : World) (hs : s.size = 0) :
 Calls Tryz.prog 98 #[.pointer (some ⟨cb, 0, none⟩), .agg #[.int .i64 6, .int .i64 n, .string s, .slice a k c], .int .i64 loc] w (Yn (Zy caps Ze loc 6 n s k) w) := by
 have hb := YP 6 n s (.slice a k c) w
 have hE : Hid (Zy caps Ze loc 6 n s k = _) := Bc (.inr hs)
 obtain rfl := YN hs
 clear hs
 by_cases hn : n = 0
 ·subst hn
  by_cases h0 : (k : Int) <= 1000
  ·go_in
   go_wp2; go_ret; exact ⟨by rw [hE.out]; rw [decide_eq_true (show k <= 1000 by omega)]; rfl, hb⟩
  ·go_in
   go_wp2; go_ret; exact ⟨by rw [hE.out]; rw [YR (show ¬ k <= 1000 by omega)]; rfl, hb⟩
 ·have n1 : (n == 0) = false := Zt hn
  have n2 : decide (n = 0) = false := YR hn; go_in; go_wp2; go_ret; exact ⟨by rw [hE.out]; rw [n2]; rfl, hb⟩
theorem Dt (cb : Nat) (caps : Int) (cf : Value) (Ze : Int -> Int -> Bool) (n loc : Int) (s : ByteArray) (a : Option Addr) (k c : Nat) (w : World) (hs : s.size = 0) :
 Calls Tryz.prog 98 #[.pointer (some ⟨cb, 0, none⟩), .agg #[.int .i64 9, .int .i64 n, .string s, .slice a k c], .int .i64 loc] w (Yn (Zy caps Ze loc 9 n s k) w) := by
 have hb := YP 9 n s (.slice a k c) w
 have hE : Hid (Zy caps Ze loc 9 n s k = _) := A9 (.inr hs)
 obtain rfl := YN hs
 clear hs
 by_cases hn : n = 0
 ·subst hn
  go_in; go_wp2_with fail; refine (YU _ _ _ _).mono ?_; rintro e w' ⟨rfl, rfl⟩; go_wp2; go_ret; exact ⟨by rw [hE.out]; rfl, hb⟩
 ·have n1 : (n == 0) = false := Zt hn
  have n2 : decide (n = 0) = false := YR hn; go_in; go_wp2; go_ret; exact ⟨by rw [hE.out]; rw [n2]; rfl, hb⟩
theorem F7 (cb : Nat) (caps : Int) (cf : Value) (Ze : Int -> Int -> Bool) (n loc : Int) (s : ByteArray) (a : Option Addr) (k c : Nat) (w : World) (hs : s.size = 0) :
 Calls Tryz.prog 98 #[.pointer (some ⟨cb, 0, none⟩), .agg #[.int .i64 11, .int .i64 n, .string s, .slice a k c], .int .i64 loc] w (Yn (Zy caps Ze loc 11 n s k) w) := by
 have hb := YP 11 n s (.slice a k c) w
 have hE : Hid (Zy caps Ze loc 11 n s k = _) := Gl (.inr hs)
 obtain rfl := YN hs
 clear hs
 by_cases hn : n = 0
 ·subst hn
  by_cases h0 : k = 2
  ·subst h0
   go_in; go_wp2; go_ret; exact ⟨by rw [hE.out]; rfl, hb⟩
  ·have h1 : ¬ (k : Int) = 2 := by omega
   have h2 : ((k : Int) == 2) = false := Zt h1; have h3 : decide (k = 2) = false := YR h0; go_in; go_wp2; go_ret; exact ⟨by rw [hE.out]; rw [h3]; rfl, hb⟩
 ·have n1 : (n == 0) = false := Zt hn
  have n2 : decide (n = 0) = false := YR hn; go_in; go_wp2; go_ret; exact ⟨by rw [hE.out]; rw [n2]; rfl, hb⟩
theorem F6 (cb : Nat) (caps : Int) (cf : Value) (Ze : Int -> Int -> Bool) (n loc : Int) (s : ByteArray) (a : Option Addr) (k c : Nat) (w : World) (hs : s.size = 0) :
 Calls Tryz.prog 98 #[.pointer (some ⟨cb, 0, none⟩), .agg #[.int .i64 25, .int .i64 n, .string s, .slice a k c], .int .i64 loc] w (Yn (Zy caps Ze loc 25 n s k) w) := by
 have hb := YP 25 n s (.slice a k c) w
 have hE : Hid (Zy caps Ze loc 25 n s k = _) := Gj (.inr hs)
 obtain rfl := YN hs
 clear hs
 by_cases hn : n = 0
 ·subst hn
  by_cases h0 : k = 2
  ·subst h0
   go_in; go_wp2; go_ret; exact ⟨by rw [hE.out]; rfl, hb⟩
  ·have h1 : ¬ (k : Int) = 2 := by omega
   have h2 : ((k : Int) == 2) = false := Zt h1; have h3 : decide (k = 2) = false := YR h0; go_in; go_wp2; go_ret; exact ⟨by rw [hE.out]; rw [h3]; rfl, hb⟩
 ·have n1 : (n == 0) = false := Zt hn
  have n2 : decide (n = 0) = false := YR hn; go_in; go_wp2; go_ret; exact ⟨by rw [hE.out]; rw [n2]; rfl, hb⟩
theorem F5 (cb : Nat) (caps : Int) (cf : Value) (Ze : Int -> Int -> Bool) (n loc : Int) (s : ByteArray) (a : Option Addr) (k c : Nat) (w : World) (hs : s.size = 0) :
 Calls Tryz.prog 98 #[.pointer (some ⟨cb, 0, none⟩), .agg #[.int .i64 12, .int .i64 n, .string s, .slice a k c], .int .i64 loc] w (Yn (Zy caps Ze loc 12 n s k) w) := by
 have hb := YP 12 n s (.slice a k c) w
 have hE : Hid (Zy caps Ze loc 12 n s k = _) := Gi (.inr hs)
 obtain rfl := YN hs
 clear hs
 obtain ⟨bb, hbb⟩ : ∃ bb, Y7 n 1 14 = bb := ⟨_, rfl⟩
 have VU := Z9 hbb
 have ha := NT n
 cases bb
 ·have h0 := Z9 (ha.2 hbb)
  clear ha hbb; go_in; go_wp2_with fail; refine (SS _ _).mono ?_; rintro e w' ⟨rfl, rfl⟩; rw [h0.out]; go_wp2; go_ret; exact ⟨by rw [hE.out]; rw [VU.out]; rfl, hb⟩
 ·have hp := (Tj n).2 hbb
  have hr0 : (0 : Int) < ZA n := by omega
  clear ha hbb; by_cases h1 : (k : Int) = ZA n
  ·have h5 : ((k : Int) == ZA n) = true := beq_iff_eq.2 h1
   go_in; go_wp2_with fail; refine (SS _ _).mono ?_; rintro e w' ⟨rfl, rfl⟩; go_wp2_with fail; refine (SS _ _).mono ?_; rintro e w' ⟨rfl, rfl⟩; go_wp2; go_ret; exact ⟨by rw [hE.out]; rw [VU.out, decide_eq_true h1]; rfl, hb⟩
  ·have h5 : ((k : Int) == ZA n) = false := Zt h1
   go_in; go_wp2_with fail; refine (SS _ _).mono ?_; rintro e w' ⟨rfl, rfl⟩; go_wp2_with fail; refine (SS _ _).mono ?_; rintro e w' ⟨rfl, rfl⟩; go_wp2; go_ret; exact ⟨by rw [hE.out]; rw [VU.out, YR h1]; rfl, hb⟩
theorem LC (cb : Nat) (caps : Int) (cf : Value) (Ze : Int -> Int -> Bool) (n loc : Int) (s : ByteArray) (a : Option Addr) (k c : Nat) (w : World) :
 Calls Tryz.prog 98 #[.pointer (some ⟨cb, 0, none⟩), .agg #[.int .i64 3, .int .i64 n, .string s, .slice a k c], .int .i64 loc] w (Yn (Zy caps Ze loc 3 n s k) w) := by
 have hb := YP 3 n s (.slice a k c) w
 have hE : Hid (Zy caps Ze loc 3 n s k = _) := Bd (.inl rfl)
 by_cases h0 : k = 0
 ·subst h0
  by_cases hn : n = 0
  ·subst hn
   by_cases hz : (s.size : Int) <= 16384
   ·go_in
    go_wp2; go_ret; exact ⟨by rw [hE.out]; rw [decide_eq_true (show s.size <= 16384 by omega)]; rfl, hb⟩
   ·go_in
    go_wp2; go_ret; exact ⟨by rw [hE.out]; rw [YR (show ¬ s.size <= 16384 by omega)]; rfl, hb⟩
  ·have n1 : (n == 0) = false := Zt hn
   have n2 : decide (n = 0) = false := YR hn; go_in; go_wp2; go_ret; exact ⟨by rw [hE.out]; rw [n2]; rfl, hb⟩
 ·have h1 : ¬ (k : Int) = 0 := by omega
  have h2 : ((k : Int) == 0) = false := Zt h1; have h3 : decide (k = 0) = false := YR h0; go_in; go_wp2; go_ret; exact ⟨by rw [hE.out]; rw [h3]; rfl, hb⟩
theorem F4 (cb : Nat) (caps : Int) (cf : Value) (Ze : Int -> Int -> Bool) (n loc : Int) (s : ByteArray) (a : Option Addr) (k c : Nat) (w : World) (op : Int) (hs : s.size = 0) (h : ¬ (op = 2 \/ op = 3 \/ op = 6 \/ op = 7 \/ op = 8 \/ op = 9 \/ op = 11 \/ op = 12 \/ op = 13 \/ op = 21 \/ op = 22 \/ op = 23 \/ op = 24 \/ op = 25)) :
 Calls Tryz.prog 98 #[.pointer (some ⟨cb, 0, none⟩), .agg #[.int .i64 op, .int .i64 n, .string s, .slice a k c], .int .i64 loc] w (Yn (Zy caps Ze loc op n s k) w) := by
 have hb := YP op n s (.slice a k c) w
 have hE : Hid (Zy caps Ze loc op n s k = false) := Gc h
 obtain rfl := YN hs
 clear hs
 have z2 : ¬ op = 2 := by omega
 have y2 : (op == 2) = false := Zt z2
 have z3 : ¬ op = 3 := by omega
 have y3 : (op == 3) = false := Zt z3
 have z6 : ¬ op = 6 := by omega
 have y6 : (op == 6) = false := Zt z6
 have z7 : ¬ op = 7 := by omega
 have y7 : (op == 7) = false := Zt z7
 have z8 : ¬ op = 8 := by omega
 have y8 : (op == 8) = false := Zt z8
 have z9 : ¬ op = 9 := by omega
 have y9 : (op == 9) = false := Zt z9
 have z11 : ¬ op = 11 := by omega
 have y11 : (op == 11) = false := Zt z11
 have z12 : ¬ op = 12 := by omega
 have y12 : (op == 12) = false := Zt z12
 have z13 : ¬ op = 13 := by omega
 have y13 : (op == 13) = false := Zt z13
 have z21 : ¬ op = 21 := by omega
 have y21 : (op == 21) = false := Zt z21
 have z22 : ¬ op = 22 := by omega
 have y22 : (op == 22) = false := Zt z22
 have z23 : ¬ op = 23 := by omega
 have y23 : (op == 23) = false := Zt z23
 have z24 : ¬ op = 24 := by omega
 have y24 : (op == 24) = false := Zt z24
 have z25 : ¬ op = 25 := by omega
 have y25 : (op == 25) = false := Zt z25
 clear h
 go_in
 go_wp2
 go_ret
 exact ⟨by rw [hE.out]; rfl, hb⟩
theorem ZP {op n : Int} {s : ByteArray} {v : Value} {w : World} {q : Nat} (h : w.heap[q]? = some (.cells #[.int .i64 op, .int .i64 n, .string s, v] 36 (0, 0))) : w.cell? ⟨q, 0, none⟩ = some (.int .i64 op) /\ w.cell? ⟨q, 1, none⟩ = some (.int .i64 n) /\ w.cell? ⟨q, 2, none⟩ = some (.string s) /\ w.cell? ⟨q, 3, none⟩ = some v := X9 h
theorem XY {B : Nat} {w wr : World} {a : Option Addr} {c : Nat} {l : List Z0} (hR : Uu B w (.slice a l.length c) l.length (ZR l)) (hb : Below B w wr) (k : Nat) (hk : k < l.length) :
 ∃ b off, a = some ⟨b, off, none⟩ /\ b < B /\ wr.cell? ⟨b, off + k * 4, none⟩ = some (.int .i64 (l.getD k default).op) /\ wr.cell? ⟨b, off + k * 4 + 1, none⟩ = some (.int .i64 (l.getD k default).n) /\ wr.cell? ⟨b, off + k * 4 + 2, none⟩ = some (.string (l.getD k default).s) /\ wr.cell? ⟨b, off + k * 4 + 3, none⟩ = some (l.getD k default).lv := by
 obtain ⟨b, off, c', ha, _, Rx, c0, c1, c2, c3⟩ := Bp (hR.kept hb.block) k hk
 exact ⟨b, off, (Value.slice.inj ha).1, Rx, c0, c1, c2, c3⟩
def mE (x : Z0) (w : World) (e : Ending) (w' : World) : Prop := e = .returned (.tuple #[.int .i64 (YO x), .int .i64 (Y5 x)]) /\ Below w.heap.size w w'
def qN (B : Nat) (x : Z0) : Prop := ∀ w, B <= w.heap.size -> Y0 B w x -> YO x <= 1000000 -> Calls Tryz.prog 97 #[Ws x] w (mE x w)
theorem RS {l : List Z0} {y : Z0} (h : y ∈ l) : YO y <= Yv l := by
 induction l with
 | nil => cases h
 | cons x r ih =>
   rw [X6]; rcases List.mem_cons.1 h with rfl | h
   ·omega
   ·have := ih h; omega
theorem JW (x : Z0) : Y5 x <= YO x := by
 induction x using Z0.induct with
 | h op n s lv l ih =>
   rw [WX, Wv]; have : ∀ l : List Z0, (∀ y ∈ l, Y5 y <= YO y) -> YI l <= Yv l := fun l => by
    induction l with
    | nil => intro _; rw [U4, VP]; omega
    | cons x r ih2 => intro h; rw [WK, X6]; have := h x (List.mem_cons_self ..); have := ih2 fun y hy => h y (List.mem_cons_of_mem _ hy); omega
   have := this l ih; omega
theorem Dr (l : List Z0) : YI l <= Yv l := by
 have := JW (.mk 0 0 ⟨#[]⟩ undef l); rw [WX, Wv] at this; omega
theorem V8 (l : List Z0) (k : Nat) : Yv (l.take k) <= Yv l := by
 have : ∀ a b : List Z0, Yv (a ++ b) = Yv a + Yv b := fun a b => by
  induction a with
  | nil => rw [List.nil_append, VP]; omega
  | cons x r ih => rw [List.cons_append, X6, X6, ih]; omega
 conv => rhs; rw [<- List.take_append_drop k l, this]
 omega
theorem length_le (l : List Z0) : l.length <= Yv l := by
 induction l with
 | nil => simp
 | cons x r ih => rw [X6, List.length_cons]; have := U6 x; omega
theorem F3 (B : Nat) (x : Z0) : qN B x := by
 induction x using Z0.induct with
 | h op n s lv l ih =>
   intro w hBw hx hsz; rw [ZE]; have SC := Z9 ih; obtain ⟨hr, _, hy⟩ := hx.parts; rw [Wv] at hsz; have hll := length_le l; have HY := Z9 hy; have HR := Z9 hr; obtain ⟨a, c, rfl, hlc, _⟩ := hr; have hb1 := YP op n s (.slice a l.length c) w; have gP := ZV w (.cells #[.int .i64 op, .int .i64 n, .string s, .slice a l.length c] 36); obtain ⟨p0, p1, p2, p3⟩ := ZP gP; clear ih hx hy gP; go_in; go_wp2_with fail; generalize w.alloc (.cells #[.int .i64 op, .int .i64 n, .string s, .slice a l.length c] 36) = W at *; go_loopw [2, 3, 11] (fun m h i wr => ∃ (k : Nat) (ms hs : Nat), k <= l.length /\ i = .int .i64 k /\ m = .int .i64 ms /\ h = .int .i64 hs /\ Hid (ms = Yv (l.take k) /\ hs = YI (l.take k)) /\ Below w.heap.size w wr) (fun _ _ i _ => l.length - (intOf i).toNat)
   case atStart => exact ⟨0, 0, 0, Nat.zero_le _, rfl, rfl, rfl, ⟨by rw [List.take_zero, VP], by rw [List.take_zero, U4]⟩, hb1⟩
   case round =>
    obtain ⟨k, ms, hs, hk, rfl, rfl, rfl, HS, hbr⟩ := hrel; have hms : ms <= 1000000 := by have := HS.out.1; have := V8 l k; omega
    have hhs : hs <= 1000000 := by have h1 := HS.out.2; have h2 := V8 l k; have h3 := Dr (l.take k); omega
    by_cases hkl : k < l.length
    ·obtain ⟨b, off, rfl, Rx, c0, c1, c2, c3⟩ := XY HR.out (hbr.mono hBw) k hkl
     have hmem := Zr default l k hkl; have hsy := RS hmem; have hT := take_one default l k hkl; have HT : Hid (Yv (l.take (k + 1)) = Yv (l.take k) + YO (l.getD k default) /\ YI (l.take (k + 1)) = max (YI (l.take k)) (Y5 (l.getD k default))) := ⟨by rw [hT, VB], by rw [hT, OY]⟩; have hyk := HY.out _ hmem; have hih := SC.out _ hmem; have hT2 := V8 l (k + 1); clear hT hmem; generalize l.getD k default = x at *; obtain ⟨xo, xn, xs, xv, xl⟩ := x; obtain ⟨xa, xc, rfl, _⟩ := hyk.parts.1; simp only [Z0.op, Z0.n, Z0.s, Z0.lv] at c0 c1 c2 c3; have hb3 := YP xo xn xs (.slice xa xl.length xc) wr; have gX := ZV wr (.cells #[.int .i64 xo, .int .i64 xn, .string xs, .slice xa xl.length xc] 36); obtain ⟨e0, e1, e2, e3⟩ := ZP gX; have hbx := hbr.trans (hb3.mono hbr.size); have HM := Z9 (hih _ (by have := hbx.size; omega) (hyk.under (hbx.mono hBw)) (by omega)); rw [ZE] at HM; have hht := JW (.mk xo xn xs (.slice xa xl.length xc) xl); have abV := HT.out.1; have abW := HS.out.1; clear hih hyk gX hb3; go_wp2_with fail; refine HM.out.mono ?_; rintro e w2 ⟨rfl, hb4⟩; have hbe := hbx.trans (hb4.mono hbx.size); generalize hsx : YO (.mk xo xn xs (.slice xa xl.length xc) xl) = sx at *; generalize hhx : Y5 (.mk xo xn xs (.slice xa xl.length xc) xl) = hx at *; have HS2 : Hid (ms + sx = Yv (l.take (k + 1)) /\ max hs hx = YI (l.take (k + 1))) := ⟨by omega, by rw [HT.out.2, HS.out.2]⟩; clear hb4 e0 e1 e2 e3 c0 c1 c2 c3 HM; by_cases hmx : (hs : Int) < (hx : Int)
     ·have hmm : max hs hx = hx := by omega
      go_wp2_with fail; go_round
      case rel => exact ⟨k + 1, ms + sx, hx, by omega, by go_num, by go_num, rfl, ⟨HS2.out.1, by rw [<- hmm]; exact HS2.out.2⟩, hbe⟩
      case measure => simp [intOf]; omega
     ·have hmm : max hs hx = hs := by omega
      go_wp2_with fail; go_round
      case rel => exact ⟨k + 1, ms + sx, hs, by omega, by go_num, by go_num, rfl, ⟨HS2.out.1, by rw [<- hmm]; exact HS2.out.2⟩, hbe⟩
      case measure => simp [intOf]; omega
    ·go_wp2
     go_ret2; obtain ⟨s1, s2⟩ := HS.out; rw [List.take_of_length_le (by omega)] at s1 s2; refine ⟨?_, hbr⟩; rw [Wv, WX, <- s1, <- s2]
     push_cast
     rfl
theorem zP (B : Nat) (x : Z0) (w : World) (hBw : B <= w.heap.size) (hx : Y0 B w x) (hs : YO x <= 600) (hh : Y5 x <= 211) : Calls Tryz.prog 77 #[Ws x] w (Yn false w) := by
 obtain ⟨op, n, s, lv, l⟩ := x
 rw [ZE]
 have hb1 := YP op n s lv w
 have gP := ZV w (.cells #[.int .i64 op, .int .i64 n, .string s, lv] 36)
 obtain ⟨p0, p1, p2, p3⟩ := ZP gP
 have HM := Z9 (F3 B _ _ (by have := hb1.size; omega) (hx.under (hb1.mono hBw)) (by omega))
 rw [ZE] at HM
 clear gP hx
 go_in
 go_wp2_with fail
 refine HM.out.mono ?_
 rintro e w2 ⟨rfl, hb2⟩
 generalize YO (.mk op n s lv l) = sx at *
 generalize Y5 (.mk op n s lv l) = hx at *
 have hs' : ¬ (20000 : Int) < (sx : Int) := by omega
 have hh' : ¬ (400 : Int) < (hx : Int) := by omega
 have hbe := hb1.trans (hb2.mono hb1.size)
 clear hb1 hb2 HM
 go_wp2
 go_ret
 refine ⟨XT (a := decide ((20000 : Int) < (sx : Int)) || decide ((400 : Int) < (hx : Int))) ?_, hbe⟩
 rw [YR (by omega), YR (by omega)]; rfl
end Go.Proofs.YtbcfdebdikgijaaGreatDoor
