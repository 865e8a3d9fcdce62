/- The reference's look at one node (printed by gen_flatr.py). -/
import Derived.Test.YtidolpcbbbakmaaGreatM26
namespace Go.Proofs.YtidolpcbbbakmaaGreat
open Go Go.RowKit
open Go.Maps

def flatR (op n : Int) (s : ByteArray) (k : Nat) : Bool :=
  if op = 21 then decide (k = 0) && (decide (s.size = 0) && decide (0 ≤ n)) else if op = 23 then decide (k = 0) && (decide (s.size = 0) && decide (0 ≤ n)) else if op = 22 then decide (k = 0) && (decide (s.size = 0) && decide (n = 0)) else if op = 24 then decide (k ≤ 1000) && (decide (s.size = 0) && decide (0 ≤ n)) else if op = 25 then decide (k = 2) && (decide (s.size = 0) && decide (n = 0)) else if op = 2 then decide (k = 0) && (decide (s.size = 0) && inB n (-4503599627370496) 4503599627370496) else if op = 3 then decide (k = 0) && (decide (n = 0) && decide (s.size ≤ 16384)) else if op = 6 then decide (n = 0) && (decide (s.size = 0) && decide (k ≤ 1000)) else if op = 7 then decide (k = 1) && (decide (s.size = 0) && inB n 0 999) else if op = 8 then decide (k = 1) && (decide (s.size = 0) && inB n 0 999) else if op = 9 then decide (n = 0) && (decide (s.size = 0) && inB k 2 1001) else if op = 11 then decide (k = 2) && (decide (n = 0) && decide (s.size = 0)) else if op = 12 then decide (s.size = 0) && (inB n 1 14 && decide ((k : Int) = ref46_arity n)) else if op = 13 then decide (k = 0) && (decide (s.size = 0) && inB n 1 1000000) else false
theorem flatR_21 {n : Int} {s : ByteArray} {k : Nat} : flatR 21 n s k = (decide (k = 0) && (decide (s.size = 0) && decide (0 ≤ n))) := by
  unfold flatR
  rw [if_pos rfl]
theorem flatR_23 {n : Int} {s : ByteArray} {k : Nat} : flatR 23 n s k = (decide (k = 0) && (decide (s.size = 0) && decide (0 ≤ n))) := by
  unfold flatR
  rw [if_neg (by decide), if_pos rfl]
theorem flatR_22 {n : Int} {s : ByteArray} {k : Nat} : flatR 22 n s k = (decide (k = 0) && (decide (s.size = 0) && decide (n = 0))) := by
  unfold flatR
  rw [if_neg (by decide), if_neg (by decide), if_pos rfl]
theorem flatR_24 {n : Int} {s : ByteArray} {k : Nat} : flatR 24 n s k = (decide (k ≤ 1000) && (decide (s.size = 0) && decide (0 ≤ n))) := by
  unfold flatR
  rw [if_neg (by decide), if_neg (by decide), if_neg (by decide), if_pos rfl]
theorem flatR_25 {n : Int} {s : ByteArray} {k : Nat} : flatR 25 n s k = (decide (k = 2) && (decide (s.size = 0) && decide (n = 0))) := by
  unfold flatR
  rw [if_neg (by decide), if_neg (by decide), if_neg (by decide), if_neg (by decide), if_pos rfl]
theorem flatR_2 {n : Int} {s : ByteArray} {k : Nat} : flatR 2 n s k = (decide (k = 0) && (decide (s.size = 0) && inB n (-4503599627370496) 4503599627370496)) := by
  unfold flatR
  rw [if_neg (by decide), if_neg (by decide), if_neg (by decide), if_neg (by decide), if_neg (by decide), if_pos rfl]
theorem flatR_3 {n : Int} {s : ByteArray} {k : Nat} : flatR 3 n s k = (decide (k = 0) && (decide (n = 0) && decide (s.size ≤ 16384))) := by
  unfold flatR
  rw [if_neg (by decide), if_neg (by decide), if_neg (by decide), if_neg (by decide), if_neg (by decide), if_neg (by decide), if_pos rfl]
theorem flatR_6 {n : Int} {s : ByteArray} {k : Nat} : flatR 6 n s k = (decide (n = 0) && (decide (s.size = 0) && decide (k ≤ 1000))) := by
  unfold flatR
  rw [if_neg (by decide), if_neg (by decide), if_neg (by decide), if_neg (by decide), if_neg (by decide), if_neg (by decide), if_neg (by decide), if_pos rfl]
theorem flatR_7 {n : Int} {s : ByteArray} {k : Nat} : flatR 7 n s k = (decide (k = 1) && (decide (s.size = 0) && inB n 0 999)) := by
  unfold flatR
  rw [if_neg (by decide), if_neg (by decide), if_neg (by decide), if_neg (by decide), if_neg (by decide), if_neg (by decide), if_neg (by decide), if_neg (by decide), if_pos rfl]
theorem flatR_8 {n : Int} {s : ByteArray} {k : Nat} : flatR 8 n s k = (decide (k = 1) && (decide (s.size = 0) && inB n 0 999)) := by
  unfold flatR
  rw [if_neg (by decide), if_neg (by decide), if_neg (by decide), if_neg (by decide), if_neg (by decide), if_neg (by decide), if_neg (by decide), if_neg (by decide), if_neg (by decide), if_pos rfl]
theorem flatR_9 {n : Int} {s : ByteArray} {k : Nat} : flatR 9 n s k = (decide (n = 0) && (decide (s.size = 0) && inB k 2 1001)) := by
  unfold flatR
  rw [if_neg (by decide), if_neg (by decide), if_neg (by decide), if_neg (by decide), if_neg (by decide), if_neg (by decide), if_neg (by decide), if_neg (by decide), if_neg (by decide), if_neg (by decide), if_pos rfl]
theorem flatR_11 {n : Int} {s : ByteArray} {k : Nat} : flatR 11 n s k = (decide (k = 2) && (decide (n = 0) && decide (s.size = 0))) := by
  unfold flatR
  rw [if_neg (by decide), if_neg (by decide), if_neg (by decide), if_neg (by decide), if_neg (by decide), if_neg (by decide), if_neg (by decide), if_neg (by decide), if_neg (by decide), if_neg (by decide), if_neg (by decide), if_pos rfl]
theorem flatR_12 {n : Int} {s : ByteArray} {k : Nat} : flatR 12 n s k = (decide (s.size = 0) && (inB n 1 14 && decide ((k : Int) = ref46_arity n))) := by
  unfold flatR
  rw [if_neg (by decide), if_neg (by decide), if_neg (by decide), if_neg (by decide), if_neg (by decide), if_neg (by decide), if_neg (by decide), if_neg (by decide), if_neg (by decide), if_neg (by decide), if_neg (by decide), if_neg (by decide), if_pos rfl]
theorem flatR_13 {n : Int} {s : ByteArray} {k : Nat} : flatR 13 n s k = (decide (k = 0) && (decide (s.size = 0) && inB n 1 1000000)) := by
  unfold flatR
  rw [if_neg (by decide), if_neg (by decide), if_neg (by decide), if_neg (by decide), if_neg (by decide), if_neg (by decide), if_neg (by decide), if_neg (by decide), if_neg (by decide), if_neg (by decide), if_neg (by decide), if_neg (by decide), if_neg (by decide), if_pos rfl]
theorem flatR_no {n : Int} {s : ByteArray} {k : Nat} {op : Int} (h : ¬ (op = 2 ∨ op = 3 ∨ op = 6 ∨ op = 7 ∨ op = 8 ∨ op = 9 ∨ op = 11 ∨ op = 12 ∨ op = 13 ∨ op = 21 ∨ op = 22 ∨ op = 23 ∨ op = 24 ∨ op = 25)) : flatR op n s k = false := by
  unfold flatR
  rw [if_neg (by omega), if_neg (by omega), if_neg (by omega), if_neg (by omega), if_neg (by omega), if_neg (by omega), if_neg (by omega), if_neg (by omega), if_neg (by omega), if_neg (by omega), if_neg (by omega), if_neg (by omega), if_neg (by omega), if_neg (by omega)]
theorem rin_any (n a b : Int) (w : World) : Calls Tryz.prog 37 #[.int .i64 n, .int .i64 a, .int .i64 b] w fun e w' => e = .returned (.bool (inB n a b)) ∧ w = w' := by
  go_enter Tryz.func37, Tryz.ntmps37
  go_wp2
  all_goals
    go_ret
    refine ⟨ret_bool ?_, rfl⟩
    simp [inB] <;> omega
set_option maxHeartbeats 1000000 in
theorem rarity_any (n : Int) (w : World) : Calls Tryz.prog 95 #[.int .i64 n] w fun e w' => e = .returned (.int .i64 (ref46_arity n)) ∧ w = w' := by
  go_enter Tryz.func95, Tryz.ntmps95
  go_wp2
  all_goals
    go_ret
    refine ⟨ret_int ?_, rfl⟩
    simp only [beq_iff_eq, beq_eq_false_iff_ne, ne_eq] at *
    unfold ref46_arity
    repeat' split
    all_goals omega
set_option maxHeartbeats 1000000 in
set_option maxRecDepth 100000 in
theorem flatr_21_any (n : Int) (s : ByteArray) (a : Option Addr) (k c : Nat) (w : World) :
    Calls Tryz.prog 84 #[.agg #[.int .i64 21, .int .i64 n, .string s, .slice a k c]] w (FormOk (flatR 21 n s k) w) := by
  have hb := box_exp 21 n s (.slice a k c) w
  have hE : Hid (flatR 21 n s k = _) := flatR_21
  by_cases h0 : k = 0
  · subst h0
    by_cases h1 : s.size = 0
    · obtain rfl := size_zero h1
      clear h1
      by_cases h2 : 0 ≤ n
      · have r2 := Lib.hid (decide_eq_true h2)
        go_enter Tryz.func84, Tryz.ntmps84
        go_wp2_with fail
        go_ret
        exact ⟨by rw [hE.out]; rw [r2.out]; rfl, hb⟩
      · have r2 := Lib.hid (decide_eq_false h2)
        go_enter Tryz.func84, Tryz.ntmps84
        go_wp2_with fail
        go_ret
        exact ⟨by rw [hE.out]; rw [r2.out]; simp, hb⟩
    · obtain ⟨s1, s2, s3⟩ := size_some h1
      have r1 := Lib.hid (decide_eq_false h1)
      clear h1
      go_enter Tryz.func84, Tryz.ntmps84
      go_wp2_with fail
      go_ret
      exact ⟨by rw [hE.out]; rw [r1.out]; simp, hb⟩
  · have h1 : ¬ (k : Int) = 0 := by omega
    have h2 : ((k : Int) == 0) = false := beq_eq_false_iff_ne.2 h1
    have h3 : decide (k = 0) = false := decide_eq_false h0
    go_enter Tryz.func84, Tryz.ntmps84
    go_wp2_with fail
    go_ret
    exact ⟨by rw [hE.out]; rw [h3]; simp, hb⟩
set_option maxHeartbeats 1000000 in
set_option maxRecDepth 100000 in
theorem flatr_23_any (n : Int) (s : ByteArray) (a : Option Addr) (k c : Nat) (w : World) :
    Calls Tryz.prog 84 #[.agg #[.int .i64 23, .int .i64 n, .string s, .slice a k c]] w (FormOk (flatR 23 n s k) w) := by
  have hb := box_exp 23 n s (.slice a k c) w
  have hE : Hid (flatR 23 n s k = _) := flatR_23
  by_cases h0 : k = 0
  · subst h0
    by_cases h1 : s.size = 0
    · obtain rfl := size_zero h1
      clear h1
      by_cases h2 : 0 ≤ n
      · have r2 := Lib.hid (decide_eq_true h2)
        go_enter Tryz.func84, Tryz.ntmps84
        go_wp2_with fail
        go_ret
        exact ⟨by rw [hE.out]; rw [r2.out]; rfl, hb⟩
      · have r2 := Lib.hid (decide_eq_false h2)
        go_enter Tryz.func84, Tryz.ntmps84
        go_wp2_with fail
        go_ret
        exact ⟨by rw [hE.out]; rw [r2.out]; simp, hb⟩
    · obtain ⟨s1, s2, s3⟩ := size_some h1
      have r1 := Lib.hid (decide_eq_false h1)
      clear h1
      go_enter Tryz.func84, Tryz.ntmps84
      go_wp2_with fail
      go_ret
      exact ⟨by rw [hE.out]; rw [r1.out]; simp, hb⟩
  · have h1 : ¬ (k : Int) = 0 := by omega
    have h2 : ((k : Int) == 0) = false := beq_eq_false_iff_ne.2 h1
    have h3 : decide (k = 0) = false := decide_eq_false h0
    go_enter Tryz.func84, Tryz.ntmps84
    go_wp2_with fail
    go_ret
    exact ⟨by rw [hE.out]; rw [h3]; simp, hb⟩
set_option maxHeartbeats 1000000 in
set_option maxRecDepth 100000 in
theorem flatr_22_any (n : Int) (s : ByteArray) (a : Option Addr) (k c : Nat) (w : World) :
    Calls Tryz.prog 84 #[.agg #[.int .i64 22, .int .i64 n, .string s, .slice a k c]] w (FormOk (flatR 22 n s k) w) := by
  have hb := box_exp 22 n s (.slice a k c) w
  have hE : Hid (flatR 22 n s k = _) := flatR_22
  by_cases h0 : k = 0
  · subst h0
    by_cases h1 : s.size = 0
    · obtain rfl := size_zero h1
      clear h1
      by_cases h2 : n = 0
      · subst h2
        go_enter Tryz.func84, Tryz.ntmps84
        go_wp2_with fail
        go_ret
        exact ⟨by rw [hE.out]; rfl, hb⟩
      · have n1 : (n == 0) = false := beq_eq_false_iff_ne.2 h2
        have n2 : decide (n = 0) = false := decide_eq_false h2
        go_enter Tryz.func84, Tryz.ntmps84
        go_wp2_with fail
        go_ret
        exact ⟨by rw [hE.out]; rw [n2]; simp, hb⟩
    · obtain ⟨s1, s2, s3⟩ := size_some h1
      have r1 := Lib.hid (decide_eq_false h1)
      clear h1
      go_enter Tryz.func84, Tryz.ntmps84
      go_wp2_with fail
      go_ret
      exact ⟨by rw [hE.out]; rw [r1.out]; simp, hb⟩
  · have h1 : ¬ (k : Int) = 0 := by omega
    have h2 : ((k : Int) == 0) = false := beq_eq_false_iff_ne.2 h1
    have h3 : decide (k = 0) = false := decide_eq_false h0
    go_enter Tryz.func84, Tryz.ntmps84
    go_wp2_with fail
    go_ret
    exact ⟨by rw [hE.out]; rw [h3]; simp, hb⟩
set_option maxHeartbeats 1000000 in
set_option maxRecDepth 100000 in
theorem flatr_24_any (n : Int) (s : ByteArray) (a : Option Addr) (k c : Nat) (w : World) :
    Calls Tryz.prog 84 #[.agg #[.int .i64 24, .int .i64 n, .string s, .slice a k c]] w (FormOk (flatR 24 n s k) w) := by
  have hb := box_exp 24 n s (.slice a k c) w
  have hE : Hid (flatR 24 n s k = _) := flatR_24
  by_cases h0 : (k : Int) ≤ 1000
  · have r0 := Lib.hid (decide_eq_true (show k ≤ 1000 by omega))
    by_cases h1 : s.size = 0
    · obtain rfl := size_zero h1
      clear h1
      by_cases h2 : 0 ≤ n
      · have r2 := Lib.hid (decide_eq_true h2)
        go_enter Tryz.func84, Tryz.ntmps84
        go_wp2_with fail
        go_ret
        exact ⟨by rw [hE.out]; rw [r0.out, r2.out]; rfl, hb⟩
      · have r2 := Lib.hid (decide_eq_false h2)
        go_enter Tryz.func84, Tryz.ntmps84
        go_wp2_with fail
        go_ret
        exact ⟨by rw [hE.out]; rw [r0.out, r2.out]; simp, hb⟩
    · obtain ⟨s1, s2, s3⟩ := size_some h1
      have r1 := Lib.hid (decide_eq_false h1)
      clear h1
      go_enter Tryz.func84, Tryz.ntmps84
      go_wp2_with fail
      go_ret
      exact ⟨by rw [hE.out]; rw [r0.out, r1.out]; simp, hb⟩
  · have r0 := Lib.hid (decide_eq_false (show ¬ k ≤ 1000 by omega))
    go_enter Tryz.func84, Tryz.ntmps84
    go_wp2_with fail
    go_ret
    exact ⟨by rw [hE.out]; rw [r0.out]; simp, hb⟩
set_option maxHeartbeats 1000000 in
set_option maxRecDepth 100000 in
theorem flatr_25_any (n : Int) (s : ByteArray) (a : Option Addr) (k c : Nat) (w : World) :
    Calls Tryz.prog 84 #[.agg #[.int .i64 25, .int .i64 n, .string s, .slice a k c]] w (FormOk (flatR 25 n s k) w) := by
  have hb := box_exp 25 n s (.slice a k c) w
  have hE : Hid (flatR 25 n s k = _) := flatR_25
  by_cases h0 : k = 2
  · subst h0
    by_cases h1 : s.size = 0
    · obtain rfl := size_zero h1
      clear h1
      by_cases h2 : n = 0
      · subst h2
        go_enter Tryz.func84, Tryz.ntmps84
        go_wp2_with fail
        go_ret
        exact ⟨by rw [hE.out]; rfl, hb⟩
      · have n1 : (n == 0) = false := beq_eq_false_iff_ne.2 h2
        have n2 : decide (n = 0) = false := decide_eq_false h2
        go_enter Tryz.func84, Tryz.ntmps84
        go_wp2_with fail
        go_ret
        exact ⟨by rw [hE.out]; rw [n2]; simp, hb⟩
    · obtain ⟨s1, s2, s3⟩ := size_some h1
      have r1 := Lib.hid (decide_eq_false h1)
      clear h1
      go_enter Tryz.func84, Tryz.ntmps84
      go_wp2_with fail
      go_ret
      exact ⟨by rw [hE.out]; rw [r1.out]; simp, hb⟩
  · have h1 : ¬ (k : Int) = 2 := by omega
    have h2 : ((k : Int) == 2) = false := beq_eq_false_iff_ne.2 h1
    have h3 : decide (k = 2) = false := decide_eq_false h0
    go_enter Tryz.func84, Tryz.ntmps84
    go_wp2_with fail
    go_ret
    exact ⟨by rw [hE.out]; rw [h3]; simp, hb⟩
set_option maxHeartbeats 1000000 in
set_option maxRecDepth 100000 in
theorem flatr_2_any (n : Int) (s : ByteArray) (a : Option Addr) (k c : Nat) (w : World) :
    Calls Tryz.prog 84 #[.agg #[.int .i64 2, .int .i64 n, .string s, .slice a k c]] w (FormOk (flatR 2 n s k) w) := by
  have hb := box_exp 2 n s (.slice a k c) w
  have hE : Hid (flatR 2 n s k = _) := flatR_2
  by_cases h0 : k = 0
  · subst h0
    by_cases h1 : s.size = 0
    · obtain rfl := size_zero h1
      clear h1
      obtain ⟨bb, hbb⟩ : ∃ bb, inB n (-4503599627370496) 4503599627370496 = bb := ⟨_, rfl⟩
      have Hbb := Lib.hid hbb
      clear hbb
      cases bb
      · skip
        go_enter Tryz.func84, Tryz.ntmps84
        go_wp2_with fail
        refine (rin_any _ _ _ _).mono ?_
        rintro e w' ⟨rfl, rfl⟩
        rw [Hbb.out]
        go_wp2_with fail
        go_ret
        exact ⟨by rw [hE.out]; rw [Hbb.out]; simp, hb⟩
      · skip
        go_enter Tryz.func84, Tryz.ntmps84
        go_wp2_with fail
        refine (rin_any _ _ _ _).mono ?_
        rintro e w' ⟨rfl, rfl⟩
        rw [Hbb.out]
        go_wp2_with fail
        go_ret
        exact ⟨by rw [hE.out]; rw [Hbb.out]; rfl, hb⟩
    · obtain ⟨s1, s2, s3⟩ := size_some h1
      have r1 := Lib.hid (decide_eq_false h1)
      clear h1
      go_enter Tryz.func84, Tryz.ntmps84
      go_wp2_with fail
      go_ret
      exact ⟨by rw [hE.out]; rw [r1.out]; simp, hb⟩
  · have h1 : ¬ (k : Int) = 0 := by omega
    have h2 : ((k : Int) == 0) = false := beq_eq_false_iff_ne.2 h1
    have h3 : decide (k = 0) = false := decide_eq_false h0
    go_enter Tryz.func84, Tryz.ntmps84
    go_wp2_with fail
    go_ret
    exact ⟨by rw [hE.out]; rw [h3]; simp, hb⟩
set_option maxHeartbeats 1000000 in
set_option maxRecDepth 100000 in
theorem flatr_3_any (n : Int) (s : ByteArray) (a : Option Addr) (k c : Nat) (w : World) :
    Calls Tryz.prog 84 #[.agg #[.int .i64 3, .int .i64 n, .string s, .slice a k c]] w (FormOk (flatR 3 n s k) w) := by
  have hb := box_exp 3 n s (.slice a k c) w
  have hE : Hid (flatR 3 n s k = _) := flatR_3
  by_cases h0 : k = 0
  · subst h0
    by_cases h1 : n = 0
    · subst h1
      by_cases h2 : (s.size : Int) ≤ 16384
      · have r2 := Lib.hid (decide_eq_true (show s.size ≤ 16384 by omega))
        go_enter Tryz.func84, Tryz.ntmps84
        go_wp2_with fail
        go_ret
        exact ⟨by rw [hE.out]; rw [r2.out]; rfl, hb⟩
      · have r2 := Lib.hid (decide_eq_false (show ¬ s.size ≤ 16384 by omega))
        go_enter Tryz.func84, Tryz.ntmps84
        go_wp2_with fail
        go_ret
        exact ⟨by rw [hE.out]; rw [r2.out]; simp, hb⟩
    · have n1 : (n == 0) = false := beq_eq_false_iff_ne.2 h1
      have n2 : decide (n = 0) = false := decide_eq_false h1
      go_enter Tryz.func84, Tryz.ntmps84
      go_wp2_with fail
      go_ret
      exact ⟨by rw [hE.out]; rw [n2]; simp, hb⟩
  · have h1 : ¬ (k : Int) = 0 := by omega
    have h2 : ((k : Int) == 0) = false := beq_eq_false_iff_ne.2 h1
    have h3 : decide (k = 0) = false := decide_eq_false h0
    go_enter Tryz.func84, Tryz.ntmps84
    go_wp2_with fail
    go_ret
    exact ⟨by rw [hE.out]; rw [h3]; simp, hb⟩
set_option maxHeartbeats 1000000 in
set_option maxRecDepth 100000 in
theorem flatr_6_any (n : Int) (s : ByteArray) (a : Option Addr) (k c : Nat) (w : World) :
    Calls Tryz.prog 84 #[.agg #[.int .i64 6, .int .i64 n, .string s, .slice a k c]] w (FormOk (flatR 6 n s k) w) := by
  have hb := box_exp 6 n s (.slice a k c) w
  have hE : Hid (flatR 6 n s k = _) := flatR_6
  by_cases h0 : n = 0
  · subst h0
    by_cases h1 : s.size = 0
    · obtain rfl := size_zero h1
      clear h1
      by_cases h2 : (k : Int) ≤ 1000
      · have r2 := Lib.hid (decide_eq_true (show k ≤ 1000 by omega))
        go_enter Tryz.func84, Tryz.ntmps84
        go_wp2_with fail
        go_ret
        exact ⟨by rw [hE.out]; rw [r2.out]; rfl, hb⟩
      · have r2 := Lib.hid (decide_eq_false (show ¬ k ≤ 1000 by omega))
        go_enter Tryz.func84, Tryz.ntmps84
        go_wp2_with fail
        go_ret
        exact ⟨by rw [hE.out]; rw [r2.out]; simp, hb⟩
    · obtain ⟨s1, s2, s3⟩ := size_some h1
      have r1 := Lib.hid (decide_eq_false h1)
      clear h1
      go_enter Tryz.func84, Tryz.ntmps84
      go_wp2_with fail
      go_ret
      exact ⟨by rw [hE.out]; rw [r1.out]; simp, hb⟩
  · have n1 : (n == 0) = false := beq_eq_false_iff_ne.2 h0
    have n2 : decide (n = 0) = false := decide_eq_false h0
    go_enter Tryz.func84, Tryz.ntmps84
    go_wp2_with fail
    go_ret
    exact ⟨by rw [hE.out]; rw [n2]; simp, hb⟩
set_option maxHeartbeats 1000000 in
set_option maxRecDepth 100000 in
theorem flatr_7_any (n : Int) (s : ByteArray) (a : Option Addr) (k c : Nat) (w : World) :
    Calls Tryz.prog 84 #[.agg #[.int .i64 7, .int .i64 n, .string s, .slice a k c]] w (FormOk (flatR 7 n s k) w) := by
  have hb := box_exp 7 n s (.slice a k c) w
  have hE : Hid (flatR 7 n s k = _) := flatR_7
  by_cases h0 : k = 1
  · subst h0
    by_cases h1 : s.size = 0
    · obtain rfl := size_zero h1
      clear h1
      obtain ⟨bb, hbb⟩ : ∃ bb, inB n 0 999 = bb := ⟨_, rfl⟩
      have Hbb := Lib.hid hbb
      clear hbb
      cases bb
      · skip
        go_enter Tryz.func84, Tryz.ntmps84
        go_wp2_with fail
        refine (rin_any _ _ _ _).mono ?_
        rintro e w' ⟨rfl, rfl⟩
        rw [Hbb.out]
        go_wp2_with fail
        go_ret
        exact ⟨by rw [hE.out]; rw [Hbb.out]; simp, hb⟩
      · skip
        go_enter Tryz.func84, Tryz.ntmps84
        go_wp2_with fail
        refine (rin_any _ _ _ _).mono ?_
        rintro e w' ⟨rfl, rfl⟩
        rw [Hbb.out]
        go_wp2_with fail
        go_ret
        exact ⟨by rw [hE.out]; rw [Hbb.out]; rfl, hb⟩
    · obtain ⟨s1, s2, s3⟩ := size_some h1
      have r1 := Lib.hid (decide_eq_false h1)
      clear h1
      go_enter Tryz.func84, Tryz.ntmps84
      go_wp2_with fail
      go_ret
      exact ⟨by rw [hE.out]; rw [r1.out]; simp, hb⟩
  · have h1 : ¬ (k : Int) = 1 := by omega
    have h2 : ((k : Int) == 1) = false := beq_eq_false_iff_ne.2 h1
    have h3 : decide (k = 1) = false := decide_eq_false h0
    go_enter Tryz.func84, Tryz.ntmps84
    go_wp2_with fail
    go_ret
    exact ⟨by rw [hE.out]; rw [h3]; simp, hb⟩
set_option maxHeartbeats 1000000 in
set_option maxRecDepth 100000 in
theorem flatr_8_any (n : Int) (s : ByteArray) (a : Option Addr) (k c : Nat) (w : World) :
    Calls Tryz.prog 84 #[.agg #[.int .i64 8, .int .i64 n, .string s, .slice a k c]] w (FormOk (flatR 8 n s k) w) := by
  have hb := box_exp 8 n s (.slice a k c) w
  have hE : Hid (flatR 8 n s k = _) := flatR_8
  by_cases h0 : k = 1
  · subst h0
    by_cases h1 : s.size = 0
    · obtain rfl := size_zero h1
      clear h1
      obtain ⟨bb, hbb⟩ : ∃ bb, inB n 0 999 = bb := ⟨_, rfl⟩
      have Hbb := Lib.hid hbb
      clear hbb
      cases bb
      · skip
        go_enter Tryz.func84, Tryz.ntmps84
        go_wp2_with fail
        refine (rin_any _ _ _ _).mono ?_
        rintro e w' ⟨rfl, rfl⟩
        rw [Hbb.out]
        go_wp2_with fail
        go_ret
        exact ⟨by rw [hE.out]; rw [Hbb.out]; simp, hb⟩
      · skip
        go_enter Tryz.func84, Tryz.ntmps84
        go_wp2_with fail
        refine (rin_any _ _ _ _).mono ?_
        rintro e w' ⟨rfl, rfl⟩
        rw [Hbb.out]
        go_wp2_with fail
        go_ret
        exact ⟨by rw [hE.out]; rw [Hbb.out]; rfl, hb⟩
    · obtain ⟨s1, s2, s3⟩ := size_some h1
      have r1 := Lib.hid (decide_eq_false h1)
      clear h1
      go_enter Tryz.func84, Tryz.ntmps84
      go_wp2_with fail
      go_ret
      exact ⟨by rw [hE.out]; rw [r1.out]; simp, hb⟩
  · have h1 : ¬ (k : Int) = 1 := by omega
    have h2 : ((k : Int) == 1) = false := beq_eq_false_iff_ne.2 h1
    have h3 : decide (k = 1) = false := decide_eq_false h0
    go_enter Tryz.func84, Tryz.ntmps84
    go_wp2_with fail
    go_ret
    exact ⟨by rw [hE.out]; rw [h3]; simp, hb⟩
set_option maxHeartbeats 1000000 in
set_option maxRecDepth 100000 in
theorem flatr_9_any (n : Int) (s : ByteArray) (a : Option Addr) (k c : Nat) (w : World) :
    Calls Tryz.prog 84 #[.agg #[.int .i64 9, .int .i64 n, .string s, .slice a k c]] w (FormOk (flatR 9 n s k) w) := by
  have hb := box_exp 9 n s (.slice a k c) w
  have hE : Hid (flatR 9 n s k = _) := flatR_9
  by_cases h0 : n = 0
  · subst h0
    by_cases h1 : s.size = 0
    · obtain rfl := size_zero h1
      clear h1
      obtain ⟨bb, hbb⟩ : ∃ bb, inB k 2 1001 = bb := ⟨_, rfl⟩
      have Hbb := Lib.hid hbb
      clear hbb
      cases bb
      · skip
        go_enter Tryz.func84, Tryz.ntmps84
        go_wp2_with fail
        refine (rin_any _ _ _ _).mono ?_
        rintro e w' ⟨rfl, rfl⟩
        rw [Hbb.out]
        go_wp2_with fail
        go_ret
        exact ⟨by rw [hE.out]; rw [Hbb.out]; simp, hb⟩
      · skip
        go_enter Tryz.func84, Tryz.ntmps84
        go_wp2_with fail
        refine (rin_any _ _ _ _).mono ?_
        rintro e w' ⟨rfl, rfl⟩
        rw [Hbb.out]
        go_wp2_with fail
        go_ret
        exact ⟨by rw [hE.out]; rw [Hbb.out]; rfl, hb⟩
    · obtain ⟨s1, s2, s3⟩ := size_some h1
      have r1 := Lib.hid (decide_eq_false h1)
      clear h1
      go_enter Tryz.func84, Tryz.ntmps84
      go_wp2_with fail
      go_ret
      exact ⟨by rw [hE.out]; rw [r1.out]; simp, hb⟩
  · have n1 : (n == 0) = false := beq_eq_false_iff_ne.2 h0
    have n2 : decide (n = 0) = false := decide_eq_false h0
    go_enter Tryz.func84, Tryz.ntmps84
    go_wp2_with fail
    go_ret
    exact ⟨by rw [hE.out]; rw [n2]; simp, hb⟩
set_option maxHeartbeats 1000000 in
set_option maxRecDepth 100000 in
theorem flatr_11_any (n : Int) (s : ByteArray) (a : Option Addr) (k c : Nat) (w : World) :
    Calls Tryz.prog 84 #[.agg #[.int .i64 11, .int .i64 n, .string s, .slice a k c]] w (FormOk (flatR 11 n s k) w) := by
  have hb := box_exp 11 n s (.slice a k c) w
  have hE : Hid (flatR 11 n s k = _) := flatR_11
  by_cases h0 : k = 2
  · subst h0
    by_cases h1 : n = 0
    · subst h1
      by_cases h2 : s.size = 0
      · obtain rfl := size_zero h2
        clear h2
        go_enter Tryz.func84, Tryz.ntmps84
        go_wp2_with fail
        go_ret
        exact ⟨by rw [hE.out]; rfl, hb⟩
      · obtain ⟨s1, s2, s3⟩ := size_some h2
        have r2 := Lib.hid (decide_eq_false h2)
        clear h2
        go_enter Tryz.func84, Tryz.ntmps84
        go_wp2_with fail
        go_ret
        exact ⟨by rw [hE.out]; rw [r2.out]; simp, hb⟩
    · have n1 : (n == 0) = false := beq_eq_false_iff_ne.2 h1
      have n2 : decide (n = 0) = false := decide_eq_false h1
      go_enter Tryz.func84, Tryz.ntmps84
      go_wp2_with fail
      go_ret
      exact ⟨by rw [hE.out]; rw [n2]; simp, hb⟩
  · have h1 : ¬ (k : Int) = 2 := by omega
    have h2 : ((k : Int) == 2) = false := beq_eq_false_iff_ne.2 h1
    have h3 : decide (k = 2) = false := decide_eq_false h0
    go_enter Tryz.func84, Tryz.ntmps84
    go_wp2_with fail
    go_ret
    exact ⟨by rw [hE.out]; rw [h3]; simp, hb⟩
set_option maxHeartbeats 1000000 in
set_option maxRecDepth 100000 in
theorem flatr_12_any (n : Int) (s : ByteArray) (a : Option Addr) (k c : Nat) (w : World) :
    Calls Tryz.prog 84 #[.agg #[.int .i64 12, .int .i64 n, .string s, .slice a k c]] w (FormOk (flatR 12 n s k) w) := by
  have hb := box_exp 12 n s (.slice a k c) w
  have hE : Hid (flatR 12 n s k = _) := flatR_12
  by_cases h0 : s.size = 0
  · obtain rfl := size_zero h0
    clear h0
    obtain ⟨bb, hbb⟩ : ∃ bb, inB n 1 14 = bb := ⟨_, rfl⟩
    have Hbb := Lib.hid hbb
    clear hbb
    cases bb
    · skip
      go_enter Tryz.func84, Tryz.ntmps84
      go_wp2_with fail
      refine (rin_any _ _ _ _).mono ?_
      rintro e w' ⟨rfl, rfl⟩
      rw [Hbb.out]
      go_wp2_with fail
      go_ret
      exact ⟨by rw [hE.out]; rw [Hbb.out]; simp, hb⟩
    · skip
      by_cases h2 : (k : Int) = ref46_arity n
      · have h5 : ((k : Int) == ref46_arity n) = true := beq_iff_eq.2 h2
        go_enter Tryz.func84, Tryz.ntmps84
        go_wp2_with fail
        refine (rin_any _ _ _ _).mono ?_
        rintro e w' ⟨rfl, rfl⟩
        rw [Hbb.out]
        go_wp2_with fail
        refine (rarity_any _ _).mono ?_
        rintro e w' ⟨rfl, rfl⟩
        go_wp2_with fail
        go_ret
        exact ⟨by rw [hE.out]; rw [Hbb.out, decide_eq_true h2]; rfl, hb⟩
      · have h5 : ((k : Int) == ref46_arity n) = false := beq_eq_false_iff_ne.2 h2
        go_enter Tryz.func84, Tryz.ntmps84
        go_wp2_with fail
        refine (rin_any _ _ _ _).mono ?_
        rintro e w' ⟨rfl, rfl⟩
        rw [Hbb.out]
        go_wp2_with fail
        refine (rarity_any _ _).mono ?_
        rintro e w' ⟨rfl, rfl⟩
        go_wp2_with fail
        go_ret
        exact ⟨by rw [hE.out]; rw [Hbb.out, decide_eq_false h2]; rfl, hb⟩
  · obtain ⟨s1, s2, s3⟩ := size_some h0
    have r0 := Lib.hid (decide_eq_false h0)
    clear h0
    go_enter Tryz.func84, Tryz.ntmps84
    go_wp2_with fail
    go_ret
    exact ⟨by rw [hE.out]; rw [r0.out]; simp, hb⟩
set_option maxHeartbeats 1000000 in
set_option maxRecDepth 100000 in
theorem flatr_13_any (n : Int) (s : ByteArray) (a : Option Addr) (k c : Nat) (w : World) :
    Calls Tryz.prog 84 #[.agg #[.int .i64 13, .int .i64 n, .string s, .slice a k c]] w (FormOk (flatR 13 n s k) w) := by
  have hb := box_exp 13 n s (.slice a k c) w
  have hE : Hid (flatR 13 n s k = _) := flatR_13
  by_cases h0 : k = 0
  · subst h0
    by_cases h1 : s.size = 0
    · obtain rfl := size_zero h1
      clear h1
      obtain ⟨bb, hbb⟩ : ∃ bb, inB n 1 1000000 = bb := ⟨_, rfl⟩
      have Hbb := Lib.hid hbb
      clear hbb
      cases bb
      · skip
        go_enter Tryz.func84, Tryz.ntmps84
        go_wp2_with fail
        refine (rin_any _ _ _ _).mono ?_
        rintro e w' ⟨rfl, rfl⟩
        rw [Hbb.out]
        go_wp2_with fail
        go_ret
        exact ⟨by rw [hE.out]; rw [Hbb.out]; simp, hb⟩
      · skip
        go_enter Tryz.func84, Tryz.ntmps84
        go_wp2_with fail
        refine (rin_any _ _ _ _).mono ?_
        rintro e w' ⟨rfl, rfl⟩
        rw [Hbb.out]
        go_wp2_with fail
        go_ret
        exact ⟨by rw [hE.out]; rw [Hbb.out]; rfl, hb⟩
    · obtain ⟨s1, s2, s3⟩ := size_some h1
      have r1 := Lib.hid (decide_eq_false h1)
      clear h1
      go_enter Tryz.func84, Tryz.ntmps84
      go_wp2_with fail
      go_ret
      exact ⟨by rw [hE.out]; rw [r1.out]; simp, hb⟩
  · have h1 : ¬ (k : Int) = 0 := by omega
    have h2 : ((k : Int) == 0) = false := beq_eq_false_iff_ne.2 h1
    have h3 : decide (k = 0) = false := decide_eq_false h0
    go_enter Tryz.func84, Tryz.ntmps84
    go_wp2_with fail
    go_ret
    exact ⟨by rw [hE.out]; rw [h3]; simp, hb⟩
set_option maxHeartbeats 1000000 in
set_option maxRecDepth 100000 in
theorem flatr_no_any (n : Int) (s : ByteArray) (a : Option Addr) (k c : Nat) (w : World) (op : Int) (h : ¬ (op = 2 ∨ op = 3 ∨ op = 6 ∨ op = 7 ∨ op = 8 ∨ op = 9 ∨ op = 11 ∨ op = 12 ∨ op = 13 ∨ op = 21 ∨ op = 22 ∨ op = 23 ∨ op = 24 ∨ op = 25)) :
    Calls Tryz.prog 84 #[.agg #[.int .i64 op, .int .i64 n, .string s, .slice a k c]] w (FormOk (flatR op n s k) w) := by
  have hb := box_exp op n s (.slice a k c) w
  have hE : Hid (flatR op n s k = false) := flatR_no h
  have z2 : ¬ op = 2 := by omega
  have y2 : (op == 2) = false := beq_eq_false_iff_ne.2 z2
  have z3 : ¬ op = 3 := by omega
  have y3 : (op == 3) = false := beq_eq_false_iff_ne.2 z3
  have z6 : ¬ op = 6 := by omega
  have y6 : (op == 6) = false := beq_eq_false_iff_ne.2 z6
  have z7 : ¬ op = 7 := by omega
  have y7 : (op == 7) = false := beq_eq_false_iff_ne.2 z7
  have z8 : ¬ op = 8 := by omega
  have y8 : (op == 8) = false := beq_eq_false_iff_ne.2 z8
  have z9 : ¬ op = 9 := by omega
  have y9 : (op == 9) = false := beq_eq_false_iff_ne.2 z9
  have z11 : ¬ op = 11 := by omega
  have y11 : (op == 11) = false := beq_eq_false_iff_ne.2 z11
  have z12 : ¬ op = 12 := by omega
  have y12 : (op == 12) = false := beq_eq_false_iff_ne.2 z12
  have z13 : ¬ op = 13 := by omega
  have y13 : (op == 13) = false := beq_eq_false_iff_ne.2 z13
  have z21 : ¬ op = 21 := by omega
  have y21 : (op == 21) = false := beq_eq_false_iff_ne.2 z21
  have z22 : ¬ op = 22 := by omega
  have y22 : (op == 22) = false := beq_eq_false_iff_ne.2 z22
  have z23 : ¬ op = 23 := by omega
  have y23 : (op == 23) = false := beq_eq_false_iff_ne.2 z23
  have z24 : ¬ op = 24 := by omega
  have y24 : (op == 24) = false := beq_eq_false_iff_ne.2 z24
  have z25 : ¬ op = 25 := by omega
  have y25 : (op == 25) = false := beq_eq_false_iff_ne.2 z25
  clear h
  go_enter Tryz.func84, Tryz.ntmps84
  go_wp2_with fail
  go_ret
  exact ⟨by rw [hE.out]; rfl, hb⟩
theorem flatr_any (op n : Int) (s : ByteArray) (a : Option Addr) (k c : Nat) (w : World) : Calls Tryz.prog 84 #[.agg #[.int .i64 op, .int .i64 n, .string s, .slice a k c]] w (FormOk (flatR op n s k) w) := by
  by_cases h : op = 2 ∨ op = 3 ∨ op = 6 ∨ op = 7 ∨ op = 8 ∨ op = 9 ∨ op = 11 ∨ op = 12 ∨ op = 13 ∨ op = 21 ∨ op = 22 ∨ op = 23 ∨ op = 24 ∨ op = 25
  · rcases h with rfl | rfl | rfl | rfl | rfl | rfl | rfl | rfl | rfl | rfl | rfl | rfl | rfl | rfl
    · exact flatr_2_any n s a k c w
    · exact flatr_3_any n s a k c w
    · exact flatr_6_any n s a k c w
    · exact flatr_7_any n s a k c w
    · exact flatr_8_any n s a k c w
    · exact flatr_9_any n s a k c w
    · exact flatr_11_any n s a k c w
    · exact flatr_12_any n s a k c w
    · exact flatr_13_any n s a k c w
    · exact flatr_21_any n s a k c w
    · exact flatr_22_any n s a k c w
    · exact flatr_23_any n s a k c w
    · exact flatr_24_any n s a k c w
    · exact flatr_25_any n s a k c w
  · exact flatr_no_any n s a k c w op h
end Go.Proofs.YtidolpcbbbakmaaGreat
