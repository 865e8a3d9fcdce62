/- Part of the proof; its texts: Cu1. -/
import Derived.Test.YtbcfdebdikgijaaGreatDoorS15
set_option maxRecDepth 100000
set_option linter.unusedVariables false
set_option linter.unusedSimpArgs false
set_option maxHeartbeats 1000000
namespace Go.Proofs.YtbcfdebdikgijaaGreatDoor
open Go Go.RowKit
open Go.Maps
def YH (op n : Int) (s : ByteArray) (k : Nat) : Bool :=
 if op = 21 then decide (k = 0) && (decide (s.size = 0) && decide (0 <= n)) else if op = 23 then decide (k = 0) && (decide (s.size = 0) && decide (0 <= n)) else if op = 22 then decide (k = 0) && (decide (s.size = 0) && decide (n = 0)) else if op = 24 then decide (k <= 1000) && (decide (s.size = 0) && decide (0 <= n)) else if op = 25 then decide (k = 2) && (decide (s.size = 0) && decide (n = 0)) else if op = 2 then decide (k = 0) && (decide (s.size = 0) && Y7 n (-4503599627370496) 4503599627370496) else if op = 3 then decide (k = 0) && (decide (n = 0) && decide (s.size <= 16384)) else if op = 6 then decide (n = 0) && (decide (s.size = 0) && decide (k <= 1000)) else if op = 7 then decide (k = 1) && (decide (s.size = 0) && Y7 n 0 999) else if op = 8 then decide (k = 1) && (decide (s.size = 0) && Y7 n 0 999) else if op = 9 then decide (n = 0) && (decide (s.size = 0) && Y7 k 2 1001) else if op = 11 then decide (k = 2) && (decide (n = 0) && decide (s.size = 0)) else if op = 12 then decide (s.size = 0) && (Y7 n 1 14 && decide ((k : Int) = ZA n)) else if op = 13 then decide (k = 0) && (decide (s.size = 0) && Y7 n 1 1000000) else false
theorem Lj {n : Int} {s : ByteArray} {k : Nat} : YH 21 n s k = (decide (k = 0) && (decide (s.size = 0) && decide (0 <= n))) := by
 unfold YH
 rw [ZY rfl]
theorem Li {n : Int} {s : ByteArray} {k : Nat} : YH 23 n s k = (decide (k = 0) && (decide (s.size = 0) && decide (0 <= n))) := by
 unfold YH
 rw [Z7 (by decide), ZY rfl]
theorem Lh {n : Int} {s : ByteArray} {k : Nat} : YH 22 n s k = (decide (k = 0) && (decide (s.size = 0) && decide (n = 0))) := by
 unfold YH
 rw [Z7 (by decide), Z7 (by decide), ZY rfl]
theorem Lg {n : Int} {s : ByteArray} {k : Nat} : YH 24 n s k = (decide (k <= 1000) && (decide (s.size = 0) && decide (0 <= n))) := by
 unfold YH
 rw [Z7 (by decide), Z7 (by decide), Z7 (by decide), ZY rfl]
theorem Lf {n : Int} {s : ByteArray} {k : Nat} : YH 25 n s k = (decide (k = 2) && (decide (s.size = 0) && decide (n = 0))) := by
 unfold YH
 rw [Z7 (by decide), Z7 (by decide), Z7 (by decide), Z7 (by decide), ZY rfl]
theorem IX {n : Int} {s : ByteArray} {k : Nat} : YH 2 n s k = (decide (k = 0) && (decide (s.size = 0) && Y7 n (-4503599627370496) 4503599627370496)) := by
 unfold YH
 rw [Z7 (by decide), Z7 (by decide), Z7 (by decide), Z7 (by decide), Z7 (by decide), ZY rfl]
theorem AJ {n : Int} {s : ByteArray} {k : Nat} : YH 3 n s k = (decide (k = 0) && (decide (n = 0) && decide (s.size <= 16384))) := by
 unfold YH
 rw [Z7 (by decide), Z7 (by decide), Z7 (by decide), Z7 (by decide), Z7 (by decide), Z7 (by decide), ZY rfl]
theorem IW {n : Int} {s : ByteArray} {k : Nat} : YH 6 n s k = (decide (n = 0) && (decide (s.size = 0) && decide (k <= 1000))) := by
 unfold YH
 rw [Z7 (by decide), Z7 (by decide), Z7 (by decide), Z7 (by decide), Z7 (by decide), Z7 (by decide), Z7 (by decide), ZY rfl]
theorem IV {n : Int} {s : ByteArray} {k : Nat} : YH 7 n s k = (decide (k = 1) && (decide (s.size = 0) && Y7 n 0 999)) := by
 unfold YH
 rw [Z7 (by decide), Z7 (by decide), Z7 (by decide), Z7 (by decide), Z7 (by decide), Z7 (by decide), Z7 (by decide), Z7 (by decide), ZY rfl]
theorem IU {n : Int} {s : ByteArray} {k : Nat} : YH 8 n s k = (decide (k = 1) && (decide (s.size = 0) && Y7 n 0 999)) := by
 unfold YH
 rw [Z7 (by decide), Z7 (by decide), Z7 (by decide), Z7 (by decide), Z7 (by decide), Z7 (by decide), Z7 (by decide), Z7 (by decide), Z7 (by decide), ZY rfl]
theorem IQ {n : Int} {s : ByteArray} {k : Nat} : YH 9 n s k = (decide (n = 0) && (decide (s.size = 0) && Y7 k 2 1001)) := by
 unfold YH
 rw [Z7 (by decide), Z7 (by decide), Z7 (by decide), Z7 (by decide), Z7 (by decide), Z7 (by decide), Z7 (by decide), Z7 (by decide), Z7 (by decide), Z7 (by decide), ZY rfl]
theorem Le {n : Int} {s : ByteArray} {k : Nat} : YH 11 n s k = (decide (k = 2) && (decide (n = 0) && decide (s.size = 0))) := by
 unfold YH
 rw [Z7 (by decide), Z7 (by decide), Z7 (by decide), Z7 (by decide), Z7 (by decide), Z7 (by decide), Z7 (by decide), Z7 (by decide), Z7 (by decide), Z7 (by decide), Z7 (by decide), ZY rfl]
theorem Ld {n : Int} {s : ByteArray} {k : Nat} : YH 12 n s k = (decide (s.size = 0) && (Y7 n 1 14 && decide ((k : Int) = ZA n))) := by
 unfold YH
 rw [Z7 (by decide), Z7 (by decide), Z7 (by decide), Z7 (by decide), Z7 (by decide), Z7 (by decide), Z7 (by decide), Z7 (by decide), Z7 (by decide), Z7 (by decide), Z7 (by decide), Z7 (by decide), ZY rfl]
theorem Lc {n : Int} {s : ByteArray} {k : Nat} : YH 13 n s k = (decide (k = 0) && (decide (s.size = 0) && Y7 n 1 1000000)) := by
 unfold YH
 rw [Z7 (by decide), Z7 (by decide), Z7 (by decide), Z7 (by decide), Z7 (by decide), Z7 (by decide), Z7 (by decide), Z7 (by decide), Z7 (by decide), Z7 (by decide), Z7 (by decide), Z7 (by decide), Z7 (by decide), ZY rfl]
theorem Fy {n : Int} {s : ByteArray} {k : Nat} {op : Int} (h : ¬ (op = 2 \/ op = 3 \/ op = 6 \/ op = 7 \/ op = 8 \/ op = 9 \/ op = 11 \/ op = 12 \/ op = 13 \/ op = 21 \/ op = 22 \/ op = 23 \/ op = 24 \/ op = 25)) : YH op n s k = false := by
 unfold YH
 rw [Z7 (by omega), Z7 (by omega), Z7 (by omega), Z7 (by omega), Z7 (by omega), Z7 (by omega), Z7 (by omega), Z7 (by omega), Z7 (by omega), Z7 (by omega), Z7 (by omega), Z7 (by omega), Z7 (by omega), Z7 (by omega)]
theorem XH (n a b : Int) (w : World) : Calls Tryz.prog 42 #[.int .i64 n, .int .i64 a, .int .i64 b] w fun e w' => e = .returned (.bool (Y7 n a b)) /\ w = w' := by
 go_in
 go_wp2
 all_goals
  go_ret; refine ⟨XT ?_, rfl⟩; simp [Y7] <;> omega
theorem Lb (n : Int) (w : World) : Calls Tryz.prog 112 #[.int .i64 n] w fun e w' => e = .returned (.int .i64 (ZA n)) /\ w = w' := by
 go_in
 go_wp2
 all_goals
  go_ret; refine ⟨Wi ?_, rfl⟩; simp only [beq_iff_eq, beq_eq_false_iff_ne, ne_eq] at *; unfold ZA
  repeat' split
  all_goals omega
theorem IL (n : Int) (s : ByteArray) (a : Option Addr) (k c : Nat) (w : World) :
 Calls Tryz.prog 95 #[.agg #[.int .i64 21, .int .i64 n, .string s, .slice a k c]] w (Yn (YH 21 n s k) w) := by
 have hb := YP 21 n s (.slice a k c) w
 have hE : Hid (YH 21 n s k = _) := Lj
 by_cases h0 : k = 0
 ·subst h0
  by_cases h1 : s.size = 0
  ·obtain rfl := YN h1
   clear h1; by_cases h2 : 0 <= n
   ·have r2 := Z9 (decide_eq_true h2)
    go_in; go_wp2; go_ret; exact ⟨by rw [hE.out]; rw [r2.out]; rfl, hb⟩
   ·have r2 := Z9 (YR h2)
    go_in; go_wp2; go_ret; exact ⟨by rw [hE.out]; rw [r2.out]; simp, hb⟩
  ·obtain ⟨s1, s2, s3⟩ := Xt h1
   have r1 := Z9 (YR h1); clear h1; go_in; go_wp2; go_ret; exact ⟨by rw [hE.out]; rw [r1.out]; simp, hb⟩
 ·have h1 : ¬ (k : Int) = 0 := by omega
  have h2 : ((k : Int) == 0) = false := Zt h1; have h3 : decide (k = 0) = false := YR h0; go_in; go_wp2; go_ret; exact ⟨by rw [hE.out]; rw [h3]; simp, hb⟩
theorem IK (n : Int) (s : ByteArray) (a : Option Addr) (k c : Nat) (w : World) :
 Calls Tryz.prog 95 #[.agg #[.int .i64 23, .int .i64 n, .string s, .slice a k c]] w (Yn (YH 23 n s k) w) := by
 have hb := YP 23 n s (.slice a k c) w
 have hE : Hid (YH 23 n s k = _) := Li
 by_cases h0 : k = 0
 ·subst h0
  by_cases h1 : s.size = 0
  ·obtain rfl := YN h1
   clear h1; by_cases h2 : 0 <= n
   ·have r2 := Z9 (decide_eq_true h2)
    go_in; go_wp2; go_ret; exact ⟨by rw [hE.out]; rw [r2.out]; rfl, hb⟩
   ·have r2 := Z9 (YR h2)
    go_in; go_wp2; go_ret; exact ⟨by rw [hE.out]; rw [r2.out]; simp, hb⟩
  ·obtain ⟨s1, s2, s3⟩ := Xt h1
   have r1 := Z9 (YR h1); clear h1; go_in; go_wp2; go_ret; exact ⟨by rw [hE.out]; rw [r1.out]; simp, hb⟩
 ·have h1 : ¬ (k : Int) = 0 := by omega
  have h2 : ((k : Int) == 0) = false := Zt h1; have h3 : decide (k = 0) = false := YR h0; go_in; go_wp2; go_ret; exact ⟨by rw [hE.out]; rw [h3]; simp, hb⟩
theorem IJ (n : Int) (s : ByteArray) (a : Option Addr) (k c : Nat) (w : World) :
 Calls Tryz.prog 95 #[.agg #[.int .i64 22, .int .i64 n, .string s, .slice a k c]] w (Yn (YH 22 n s k) w) := by
 have hb := YP 22 n s (.slice a k c) w
 have hE : Hid (YH 22 n s k = _) := Lh
 by_cases h0 : k = 0
 ·subst h0
  by_cases h1 : s.size = 0
  ·obtain rfl := YN h1
   clear h1; by_cases h2 : n = 0
   ·subst h2
    go_in; go_wp2; go_ret; exact ⟨by rw [hE.out]; rfl, hb⟩
   ·have n1 : (n == 0) = false := Zt h2
    have n2 : decide (n = 0) = false := YR h2; go_in; go_wp2; go_ret; exact ⟨by rw [hE.out]; rw [n2]; simp, hb⟩
  ·obtain ⟨s1, s2, s3⟩ := Xt h1
   have r1 := Z9 (YR h1); clear h1; go_in; go_wp2; go_ret; exact ⟨by rw [hE.out]; rw [r1.out]; simp, hb⟩
 ·have h1 : ¬ (k : Int) = 0 := by omega
  have h2 : ((k : Int) == 0) = false := Zt h1; have h3 : decide (k = 0) = false := YR h0; go_in; go_wp2; go_ret; exact ⟨by rw [hE.out]; rw [h3]; simp, hb⟩
theorem II (n : Int) (s : ByteArray) (a : Option Addr) (k c : Nat) (w : World) :
 Calls Tryz.prog 95 #[.agg #[.int .i64 24, .int .i64 n, .string s, .slice a k c]] w (Yn (YH 24 n s k) w) := by
 have hb := YP 24 n s (.slice a k c) w
 have hE : Hid (YH 24 n s k = _) := Lg
 by_cases h0 : (k : Int) <= 1000
 ·have r0 := Z9 (decide_eq_true (show k <= 1000 by omega))
  by_cases h1 : s.size = 0
  ·obtain rfl := YN h1
   clear h1; by_cases h2 : 0 <= n
   ·have r2 := Z9 (decide_eq_true h2)
    go_in; go_wp2; go_ret; exact ⟨by rw [hE.out]; rw [r0.out, r2.out]; rfl, hb⟩
   ·have r2 := Z9 (YR h2)
    go_in; go_wp2; go_ret; exact ⟨by rw [hE.out]; rw [r0.out, r2.out]; simp, hb⟩
  ·obtain ⟨s1, s2, s3⟩ := Xt h1
   have r1 := Z9 (YR h1); clear h1; go_in; go_wp2; go_ret; exact ⟨by rw [hE.out]; rw [r0.out, r1.out]; simp, hb⟩
 ·have r0 := Z9 (YR (show ¬ k <= 1000 by omega))
  go_in; go_wp2; go_ret; exact ⟨by rw [hE.out]; rw [r0.out]; simp, hb⟩
theorem IG (n : Int) (s : ByteArray) (a : Option Addr) (k c : Nat) (w : World) :
 Calls Tryz.prog 95 #[.agg #[.int .i64 25, .int .i64 n, .string s, .slice a k c]] w (Yn (YH 25 n s k) w) := by
 have hb := YP 25 n s (.slice a k c) w
 have hE : Hid (YH 25 n s k = _) := Lf
 by_cases h0 : k = 2
 ·subst h0
  by_cases h1 : s.size = 0
  ·obtain rfl := YN h1
   clear h1; by_cases h2 : n = 0
   ·subst h2
    go_in; go_wp2; go_ret; exact ⟨by rw [hE.out]; rfl, hb⟩
   ·have n1 : (n == 0) = false := Zt h2
    have n2 : decide (n = 0) = false := YR h2; go_in; go_wp2; go_ret; exact ⟨by rw [hE.out]; rw [n2]; simp, hb⟩
  ·obtain ⟨s1, s2, s3⟩ := Xt h1
   have r1 := Z9 (YR h1); clear h1; go_in; go_wp2; go_ret; exact ⟨by rw [hE.out]; rw [r1.out]; simp, hb⟩
 ·have h1 : ¬ (k : Int) = 2 := by omega
  have h2 : ((k : Int) == 2) = false := Zt h1; have h3 : decide (k = 2) = false := YR h0; go_in; go_wp2; go_ret; exact ⟨by rw [hE.out]; rw [h3]; simp, hb⟩
theorem Fx (n : Int) (s : ByteArray) (a : Option Addr) (k c : Nat) (w : World) :
 Calls Tryz.prog 95 #[.agg #[.int .i64 2, .int .i64 n, .string s, .slice a k c]] w (Yn (YH 2 n s k) w) := by
 have hb := YP 2 n s (.slice a k c) w
 have hE : Hid (YH 2 n s k = _) := IX
 by_cases h0 : k = 0
 ·subst h0
  by_cases h1 : s.size = 0
  ·obtain rfl := YN h1
   clear h1; obtain ⟨bb, hbb⟩ : ∃ bb, Y7 n (-4503599627370496) 4503599627370496 = bb := ⟨_, rfl⟩; have VU := Z9 hbb; clear hbb; cases bb
   ·skip
    go_in; go_wp2_with fail; refine (XH _ _ _ _).mono ?_; rintro e w' ⟨rfl, rfl⟩; rw [VU.out]; go_wp2; go_ret; exact ⟨by rw [hE.out]; rw [VU.out]; simp, hb⟩
   ·skip
    go_in; go_wp2_with fail; refine (XH _ _ _ _).mono ?_; rintro e w' ⟨rfl, rfl⟩; rw [VU.out]; go_wp2; go_ret; exact ⟨by rw [hE.out]; rw [VU.out]; rfl, hb⟩
  ·obtain ⟨s1, s2, s3⟩ := Xt h1
   have r1 := Z9 (YR h1); clear h1; go_in; go_wp2; go_ret; exact ⟨by rw [hE.out]; rw [r1.out]; simp, hb⟩
 ·have h1 : ¬ (k : Int) = 0 := by omega
  have h2 : ((k : Int) == 0) = false := Zt h1; have h3 : decide (k = 0) = false := YR h0; go_in; go_wp2; go_ret; exact ⟨by rw [hE.out]; rw [h3]; simp, hb⟩
theorem Fw (n : Int) (s : ByteArray) (a : Option Addr) (k c : Nat) (w : World) :
 Calls Tryz.prog 95 #[.agg #[.int .i64 3, .int .i64 n, .string s, .slice a k c]] w (Yn (YH 3 n s k) w) := by
 have hb := YP 3 n s (.slice a k c) w
 have hE : Hid (YH 3 n s k = _) := AJ
 by_cases h0 : k = 0
 ·subst h0
  by_cases h1 : n = 0
  ·subst h1
   by_cases h2 : (s.size : Int) <= 16384
   ·have r2 := Z9 (decide_eq_true (show s.size <= 16384 by omega))
    go_in; go_wp2; go_ret; exact ⟨by rw [hE.out]; rw [r2.out]; rfl, hb⟩
   ·have r2 := Z9 (YR (show ¬ s.size <= 16384 by omega))
    go_in; go_wp2; go_ret; exact ⟨by rw [hE.out]; rw [r2.out]; simp, hb⟩
  ·have n1 : (n == 0) = false := Zt h1
   have n2 : decide (n = 0) = false := YR h1; go_in; go_wp2; go_ret; exact ⟨by rw [hE.out]; rw [n2]; simp, hb⟩
 ·have h1 : ¬ (k : Int) = 0 := by omega
  have h2 : ((k : Int) == 0) = false := Zt h1; have h3 : decide (k = 0) = false := YR h0; go_in; go_wp2; go_ret; exact ⟨by rw [hE.out]; rw [h3]; simp, hb⟩
theorem Fv (n : Int) (s : ByteArray) (a : Option Addr) (k c : Nat) (w : World) :
 Calls Tryz.prog 95 #[.agg #[.int .i64 6, .int .i64 n, .string s, .slice a k c]] w (Yn (YH 6 n s k) w) := by
 have hb := YP 6 n s (.slice a k c) w
 have hE : Hid (YH 6 n s k = _) := IW
 by_cases h0 : n = 0
 ·subst h0
  by_cases h1 : s.size = 0
  ·obtain rfl := YN h1
   clear h1; by_cases h2 : (k : Int) <= 1000
   ·have r2 := Z9 (decide_eq_true (show k <= 1000 by omega))
    go_in; go_wp2; go_ret; exact ⟨by rw [hE.out]; rw [r2.out]; rfl, hb⟩
   ·have r2 := Z9 (YR (show ¬ k <= 1000 by omega))
    go_in; go_wp2; go_ret; exact ⟨by rw [hE.out]; rw [r2.out]; simp, hb⟩
  ·obtain ⟨s1, s2, s3⟩ := Xt h1
   have r1 := Z9 (YR h1); clear h1; go_in; go_wp2; go_ret; exact ⟨by rw [hE.out]; rw [r1.out]; simp, hb⟩
 ·have n1 : (n == 0) = false := Zt h0
  have n2 : decide (n = 0) = false := YR h0; go_in; go_wp2; go_ret; exact ⟨by rw [hE.out]; rw [n2]; simp, hb⟩
theorem Fu (n : Int) (s : ByteArray) (a : Option Addr) (k c : Nat) (w : World) :
 Calls Tryz.prog 95 #[.agg #[.int .i64 7, .int .i64 n, .string s, .slice a k c]] w (Yn (YH 7 n s k) w) := by
 have hb := YP 7 n s (.slice a k c) w
 have hE : Hid (YH 7 n s k = _) := IV
 by_cases h0 : k = 1
 ·subst h0
  by_cases h1 : s.size = 0
  ·obtain rfl := YN h1
   clear h1; obtain ⟨bb, hbb⟩ : ∃ bb, Y7 n 0 999 = bb := ⟨_, rfl⟩; have VU := Z9 hbb; clear hbb; cases bb
   ·skip
    go_in; go_wp2_with fail; refine (XH _ _ _ _).mono ?_; rintro e w' ⟨rfl, rfl⟩; rw [VU.out]; go_wp2; go_ret; exact ⟨by rw [hE.out]; rw [VU.out]; simp, hb⟩
   ·skip
    go_in; go_wp2_with fail; refine (XH _ _ _ _).mono ?_; rintro e w' ⟨rfl, rfl⟩; rw [VU.out]; go_wp2; go_ret; exact ⟨by rw [hE.out]; rw [VU.out]; rfl, hb⟩
  ·obtain ⟨s1, s2, s3⟩ := Xt h1
   have r1 := Z9 (YR h1); clear h1; go_in; go_wp2; go_ret; exact ⟨by rw [hE.out]; rw [r1.out]; simp, hb⟩
 ·have h1 : ¬ (k : Int) = 1 := by omega
  have h2 : ((k : Int) == 1) = false := Zt h1; have h3 : decide (k = 1) = false := YR h0; go_in; go_wp2; go_ret; exact ⟨by rw [hE.out]; rw [h3]; simp, hb⟩
theorem Fq (n : Int) (s : ByteArray) (a : Option Addr) (k c : Nat) (w : World) :
 Calls Tryz.prog 95 #[.agg #[.int .i64 8, .int .i64 n, .string s, .slice a k c]] w (Yn (YH 8 n s k) w) := by
 have hb := YP 8 n s (.slice a k c) w
 have hE : Hid (YH 8 n s k = _) := IU
 by_cases h0 : k = 1
 ·subst h0
  by_cases h1 : s.size = 0
  ·obtain rfl := YN h1
   clear h1; obtain ⟨bb, hbb⟩ : ∃ bb, Y7 n 0 999 = bb := ⟨_, rfl⟩; have VU := Z9 hbb; clear hbb; cases bb
   ·skip
    go_in; go_wp2_with fail; refine (XH _ _ _ _).mono ?_; rintro e w' ⟨rfl, rfl⟩; rw [VU.out]; go_wp2; go_ret; exact ⟨by rw [hE.out]; rw [VU.out]; simp, hb⟩
   ·skip
    go_in; go_wp2_with fail; refine (XH _ _ _ _).mono ?_; rintro e w' ⟨rfl, rfl⟩; rw [VU.out]; go_wp2; go_ret; exact ⟨by rw [hE.out]; rw [VU.out]; rfl, hb⟩
  ·obtain ⟨s1, s2, s3⟩ := Xt h1
   have r1 := Z9 (YR h1); clear h1; go_in; go_wp2; go_ret; exact ⟨by rw [hE.out]; rw [r1.out]; simp, hb⟩
 ·have h1 : ¬ (k : Int) = 1 := by omega
  have h2 : ((k : Int) == 1) = false := Zt h1; have h3 : decide (k = 1) = false := YR h0; go_in; go_wp2; go_ret; exact ⟨by rw [hE.out]; rw [h3]; simp, hb⟩
theorem Fp (n : Int) (s : ByteArray) (a : Option Addr) (k c : Nat) (w : World) :
 Calls Tryz.prog 95 #[.agg #[.int .i64 9, .int .i64 n, .string s, .slice a k c]] w (Yn (YH 9 n s k) w) := by
 have hb := YP 9 n s (.slice a k c) w
 have hE : Hid (YH 9 n s k = _) := IQ
 by_cases h0 : n = 0
 ·subst h0
  by_cases h1 : s.size = 0
  ·obtain rfl := YN h1
   clear h1; obtain ⟨bb, hbb⟩ : ∃ bb, Y7 k 2 1001 = bb := ⟨_, rfl⟩; have VU := Z9 hbb; clear hbb; cases bb
   ·skip
    go_in; go_wp2_with fail; refine (XH _ _ _ _).mono ?_; rintro e w' ⟨rfl, rfl⟩; rw [VU.out]; go_wp2; go_ret; exact ⟨by rw [hE.out]; rw [VU.out]; simp, hb⟩
   ·skip
    go_in; go_wp2_with fail; refine (XH _ _ _ _).mono ?_; rintro e w' ⟨rfl, rfl⟩; rw [VU.out]; go_wp2; go_ret; exact ⟨by rw [hE.out]; rw [VU.out]; rfl, hb⟩
  ·obtain ⟨s1, s2, s3⟩ := Xt h1
   have r1 := Z9 (YR h1); clear h1; go_in; go_wp2; go_ret; exact ⟨by rw [hE.out]; rw [r1.out]; simp, hb⟩
 ·have n1 : (n == 0) = false := Zt h0
  have n2 : decide (n = 0) = false := YR h0; go_in; go_wp2; go_ret; exact ⟨by rw [hE.out]; rw [n2]; simp, hb⟩
theorem IE (n : Int) (s : ByteArray) (a : Option Addr) (k c : Nat) (w : World) :
 Calls Tryz.prog 95 #[.agg #[.int .i64 11, .int .i64 n, .string s, .slice a k c]] w (Yn (YH 11 n s k) w) := by
 have hb := YP 11 n s (.slice a k c) w
 have hE : Hid (YH 11 n s k = _) := Le
 by_cases h0 : k = 2
 ·subst h0
  by_cases h1 : n = 0
  ·subst h1
   by_cases h2 : s.size = 0
   ·obtain rfl := YN h2
    clear h2; go_in; go_wp2; go_ret; exact ⟨by rw [hE.out]; rfl, hb⟩
   ·obtain ⟨s1, s2, s3⟩ := Xt h2
    have r2 := Z9 (YR h2); clear h2; go_in; go_wp2; go_ret; exact ⟨by rw [hE.out]; rw [r2.out]; simp, hb⟩
  ·have n1 : (n == 0) = false := Zt h1
   have n2 : decide (n = 0) = false := YR h1; go_in; go_wp2; go_ret; exact ⟨by rw [hE.out]; rw [n2]; simp, hb⟩
 ·have h1 : ¬ (k : Int) = 2 := by omega
  have h2 : ((k : Int) == 2) = false := Zt h1; have h3 : decide (k = 2) = false := YR h0; go_in; go_wp2; go_ret; exact ⟨by rw [hE.out]; rw [h3]; simp, hb⟩
theorem IC (n : Int) (s : ByteArray) (a : Option Addr) (k c : Nat) (w : World) :
 Calls Tryz.prog 95 #[.agg #[.int .i64 12, .int .i64 n, .string s, .slice a k c]] w (Yn (YH 12 n s k) w) := by
 have hb := YP 12 n s (.slice a k c) w
 have hE : Hid (YH 12 n s k = _) := Ld
 by_cases h0 : s.size = 0
 ·obtain rfl := YN h0
  clear h0; obtain ⟨bb, hbb⟩ : ∃ bb, Y7 n 1 14 = bb := ⟨_, rfl⟩; have VU := Z9 hbb; clear hbb; cases bb
  ·skip
   go_in; go_wp2_with fail; refine (XH _ _ _ _).mono ?_; rintro e w' ⟨rfl, rfl⟩; rw [VU.out]; go_wp2; go_ret; exact ⟨by rw [hE.out]; rw [VU.out]; simp, hb⟩
  ·skip
   by_cases h2 : (k : Int) = ZA n
   ·have h5 : ((k : Int) == ZA n) = true := beq_iff_eq.2 h2
    go_in; go_wp2_with fail; refine (XH _ _ _ _).mono ?_; rintro e w' ⟨rfl, rfl⟩; rw [VU.out]; go_wp2_with fail; refine (Lb _ _).mono ?_; rintro e w' ⟨rfl, rfl⟩; go_wp2; go_ret; exact ⟨by rw [hE.out]; rw [VU.out, decide_eq_true h2]; rfl, hb⟩
   ·have h5 : ((k : Int) == ZA n) = false := Zt h2
    go_in; go_wp2_with fail; refine (XH _ _ _ _).mono ?_; rintro e w' ⟨rfl, rfl⟩; rw [VU.out]; go_wp2_with fail; refine (Lb _ _).mono ?_; rintro e w' ⟨rfl, rfl⟩; go_wp2; go_ret; exact ⟨by rw [hE.out]; rw [VU.out, YR h2]; rfl, hb⟩
 ·obtain ⟨s1, s2, s3⟩ := Xt h0
  have r0 := Z9 (YR h0); clear h0; go_in; go_wp2; go_ret; exact ⟨by rw [hE.out]; rw [r0.out]; simp, hb⟩
theorem IB (n : Int) (s : ByteArray) (a : Option Addr) (k c : Nat) (w : World) :
 Calls Tryz.prog 95 #[.agg #[.int .i64 13, .int .i64 n, .string s, .slice a k c]] w (Yn (YH 13 n s k) w) := by
 have hb := YP 13 n s (.slice a k c) w
 have hE : Hid (YH 13 n s k = _) := Lc
 by_cases h0 : k = 0
 ·subst h0
  by_cases h1 : s.size = 0
  ·obtain rfl := YN h1
   clear h1; obtain ⟨bb, hbb⟩ : ∃ bb, Y7 n 1 1000000 = bb := ⟨_, rfl⟩; have VU := Z9 hbb; clear hbb; cases bb
   ·skip
    go_in; go_wp2_with fail; refine (XH _ _ _ _).mono ?_; rintro e w' ⟨rfl, rfl⟩; rw [VU.out]; go_wp2; go_ret; exact ⟨by rw [hE.out]; rw [VU.out]; simp, hb⟩
   ·skip
    go_in; go_wp2_with fail; refine (XH _ _ _ _).mono ?_; rintro e w' ⟨rfl, rfl⟩; rw [VU.out]; go_wp2; go_ret; exact ⟨by rw [hE.out]; rw [VU.out]; rfl, hb⟩
  ·obtain ⟨s1, s2, s3⟩ := Xt h1
   have r1 := Z9 (YR h1); clear h1; go_in; go_wp2; go_ret; exact ⟨by rw [hE.out]; rw [r1.out]; simp, hb⟩
 ·have h1 : ¬ (k : Int) = 0 := by omega
  have h2 : ((k : Int) == 0) = false := Zt h1; have h3 : decide (k = 0) = false := YR h0; go_in; go_wp2; go_ret; exact ⟨by rw [hE.out]; rw [h3]; simp, hb⟩
theorem Iz (n : Int) (s : ByteArray) (a : Option Addr) (k c : Nat) (w : World) (op : Int) (h : ¬ (op = 2 \/ op = 3 \/ op = 6 \/ op = 7 \/ op = 8 \/ op = 9 \/ op = 11 \/ op = 12 \/ op = 13 \/ op = 21 \/ op = 22 \/ op = 23 \/ op = 24 \/ op = 25)) :
 Calls Tryz.prog 95 #[.agg #[.int .i64 op, .int .i64 n, .string s, .slice a k c]] w (Yn (YH op n s k) w) := by
 have hb := YP op n s (.slice a k c) w
 have hE : Hid (YH op n s k = false) := Fy h
 have z2 : ¬ op = 2 := by omega
 have y2 : (op == 2) = false := Zt z2
 have z3 : ¬ op = 3 := by omega
 have y3 : (op == 3) = false := Zt z3
 have z6 : ¬ op = 6 := by omega
 have y6 : (op == 6) = false := Zt z6
 have z7 : ¬ op = 7 := by omega
 have y7 : (op == 7) = false := Zt z7
 have z8 : ¬ op = 8 := by omega
 have y8 : (op == 8) = false := Zt z8
 have z9 : ¬ op = 9 := by omega
 have y9 : (op == 9) = false := Zt z9
 have z11 : ¬ op = 11 := by omega
 have y11 : (op == 11) = false := Zt z11
 have z12 : ¬ op = 12 := by omega
 have y12 : (op == 12) = false := Zt z12
 have z13 : ¬ op = 13 := by omega
 have y13 : (op == 13) = false := Zt z13
 have z21 : ¬ op = 21 := by omega
 have y21 : (op == 21) = false := Zt z21
 have z22 : ¬ op = 22 := by omega
 have y22 : (op == 22) = false := Zt z22
 have z23 : ¬ op = 23 := by omega
 have y23 : (op == 23) = false := Zt z23
 have z24 : ¬ op = 24 := by omega
 have y24 : (op == 24) = false := Zt z24
 have z25 : ¬ op = 25 := by omega
 have y25 : (op == 25) = false := Zt z25
 clear h
 go_in
 go_wp2
 go_ret
 exact ⟨by rw [hE.out]; rfl, hb⟩
theorem zh (op n : Int) (s : ByteArray) (a : Option Addr) (k c : Nat) (w : World) : Calls Tryz.prog 95 #[.agg #[.int .i64 op, .int .i64 n, .string s, .slice a k c]] w (Yn (YH op n s k) w) := by
 by_cases h : op = 2 \/ op = 3 \/ op = 6 \/ op = 7 \/ op = 8 \/ op = 9 \/ op = 11 \/ op = 12 \/ op = 13 \/ op = 21 \/ op = 22 \/ op = 23 \/ op = 24 \/ op = 25
 ·rcases h with rfl | rfl | rfl | rfl | rfl | rfl | rfl | rfl | rfl | rfl | rfl | rfl | rfl | rfl
  ·exact Fx n s a k c w
  ·exact Fw n s a k c w
  ·exact Fv n s a k c w
  ·exact Fu n s a k c w
  ·exact Fq n s a k c w
  ·exact Fp n s a k c w
  ·exact IE n s a k c w
  ·exact IC n s a k c w
  ·exact IB n s a k c w
  ·exact IL n s a k c w
  ·exact IJ n s a k c w
  ·exact IK n s a k c w
  ·exact II n s a k c w
  ·exact IG n s a k c w
 ·exact Iz n s a k c w op h
end Go.Proofs.YtbcfdebdikgijaaGreatDoor
