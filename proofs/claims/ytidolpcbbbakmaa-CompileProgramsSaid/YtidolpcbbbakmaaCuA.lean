/- The reference's look at one node (printed by gen_flatr.py). The reference's look at expressions: count, body, closures. -/
import Derived.Test.YtidolpcbbbakmaaCzA
namespace Go.Proofs.Ytidolpcbbbakmaa
open Go Go.RowKit
open Go.Maps

def flatR (op n : Int) (s : ByteArray) (k : Nat) : Bool :=
  if op = 21 then decide (k = 0) && (decide (s.size = 0) && decide (0 ≤ n)) else if op = 23 then decide (k = 0) && (decide (s.size = 0) && decide (0 ≤ n)) else if op = 22 then decide (k = 0) && (decide (s.size = 0) && decide (n = 0)) else if op = 24 then decide (k ≤ 1000) && (decide (s.size = 0) && decide (0 ≤ n)) else if op = 25 then decide (k = 2) && (decide (s.size = 0) && decide (n = 0)) else if op = 2 then decide (k = 0) && (decide (s.size = 0) && inB n (-4503599627370496) 4503599627370496) else if op = 3 then decide (k = 0) && (decide (n = 0) && decide (s.size ≤ 16384)) else if op = 6 then decide (n = 0) && (decide (s.size = 0) && decide (k ≤ 1000)) else if op = 7 then decide (k = 1) && (decide (s.size = 0) && inB n 0 999) else if op = 8 then decide (k = 1) && (decide (s.size = 0) && inB n 0 999) else if op = 9 then decide (n = 0) && (decide (s.size = 0) && inB k 2 1001) else if op = 11 then decide (k = 2) && (decide (n = 0) && decide (s.size = 0)) else if op = 12 then decide (s.size = 0) && (inB n 1 14 && decide ((k : Int) = ref46_arity n)) else if op = 13 then decide (k = 0) && (decide (s.size = 0) && inB n 1 1000000) else false
theorem flatR_21 {n : Int} {s : ByteArray} {k : Nat} : flatR 21 n s k = (decide (k = 0) && (decide (s.size = 0) && decide (0 ≤ n))) := by
  unfold flatR
  rw [if_pos rfl]
theorem flatR_23 {n : Int} {s : ByteArray} {k : Nat} : flatR 23 n s k = (decide (k = 0) && (decide (s.size = 0) && decide (0 ≤ n))) := by
  unfold flatR
  rw [if_neg (by decide), if_pos rfl]
theorem flatR_22 {n : Int} {s : ByteArray} {k : Nat} : flatR 22 n s k = (decide (k = 0) && (decide (s.size = 0) && decide (n = 0))) := by
  unfold flatR
  rw [if_neg (by decide), if_neg (by decide), if_pos rfl]
theorem flatR_24 {n : Int} {s : ByteArray} {k : Nat} : flatR 24 n s k = (decide (k ≤ 1000) && (decide (s.size = 0) && decide (0 ≤ n))) := by
  unfold flatR
  rw [if_neg (by decide), if_neg (by decide), if_neg (by decide), if_pos rfl]
theorem flatR_25 {n : Int} {s : ByteArray} {k : Nat} : flatR 25 n s k = (decide (k = 2) && (decide (s.size = 0) && decide (n = 0))) := by
  unfold flatR
  rw [if_neg (by decide), if_neg (by decide), if_neg (by decide), if_neg (by decide), if_pos rfl]
theorem flatR_2 {n : Int} {s : ByteArray} {k : Nat} : flatR 2 n s k = (decide (k = 0) && (decide (s.size = 0) && inB n (-4503599627370496) 4503599627370496)) := by
  unfold flatR
  rw [if_neg (by decide), if_neg (by decide), if_neg (by decide), if_neg (by decide), if_neg (by decide), if_pos rfl]
theorem flatR_3 {n : Int} {s : ByteArray} {k : Nat} : flatR 3 n s k = (decide (k = 0) && (decide (n = 0) && decide (s.size ≤ 16384))) := by
  unfold flatR
  rw [if_neg (by decide), if_neg (by decide), if_neg (by decide), if_neg (by decide), if_neg (by decide), if_neg (by decide), if_pos rfl]
theorem flatR_6 {n : Int} {s : ByteArray} {k : Nat} : flatR 6 n s k = (decide (n = 0) && (decide (s.size = 0) && decide (k ≤ 1000))) := by
  unfold flatR
  rw [if_neg (by decide), if_neg (by decide), if_neg (by decide), if_neg (by decide), if_neg (by decide), if_neg (by decide), if_neg (by decide), if_pos rfl]
theorem flatR_7 {n : Int} {s : ByteArray} {k : Nat} : flatR 7 n s k = (decide (k = 1) && (decide (s.size = 0) && inB n 0 999)) := by
  unfold flatR
  rw [if_neg (by decide), if_neg (by decide), if_neg (by decide), if_neg (by decide), if_neg (by decide), if_neg (by decide), if_neg (by decide), if_neg (by decide), if_pos rfl]
theorem flatR_8 {n : Int} {s : ByteArray} {k : Nat} : flatR 8 n s k = (decide (k = 1) && (decide (s.size = 0) && inB n 0 999)) := by
  unfold flatR
  rw [if_neg (by decide), if_neg (by decide), if_neg (by decide), if_neg (by decide), if_neg (by decide), if_neg (by decide), if_neg (by decide), if_neg (by decide), if_neg (by decide), if_pos rfl]
theorem flatR_9 {n : Int} {s : ByteArray} {k : Nat} : flatR 9 n s k = (decide (n = 0) && (decide (s.size = 0) && inB k 2 1001)) := by
  unfold flatR
  rw [if_neg (by decide), if_neg (by decide), if_neg (by decide), if_neg (by decide), if_neg (by decide), if_neg (by decide), if_neg (by decide), if_neg (by decide), if_neg (by decide), if_neg (by decide), if_pos rfl]
theorem flatR_11 {n : Int} {s : ByteArray} {k : Nat} : flatR 11 n s k = (decide (k = 2) && (decide (n = 0) && decide (s.size = 0))) := by
  unfold flatR
  rw [if_neg (by decide), if_neg (by decide), if_neg (by decide), if_neg (by decide), if_neg (by decide), if_neg (by decide), if_neg (by decide), if_neg (by decide), if_neg (by decide), if_neg (by decide), if_neg (by decide), if_pos rfl]
theorem flatR_12 {n : Int} {s : ByteArray} {k : Nat} : flatR 12 n s k = (decide (s.size = 0) && (inB n 1 14 && decide ((k : Int) = ref46_arity n))) := by
  unfold flatR
  rw [if_neg (by decide), if_neg (by decide), if_neg (by decide), if_neg (by decide), if_neg (by decide), if_neg (by decide), if_neg (by decide), if_neg (by decide), if_neg (by decide), if_neg (by decide), if_neg (by decide), if_neg (by decide), if_pos rfl]
theorem flatR_13 {n : Int} {s : ByteArray} {k : Nat} : flatR 13 n s k = (decide (k = 0) && (decide (s.size = 0) && inB n 1 1000000)) := by
  unfold flatR
  rw [if_neg (by decide), if_neg (by decide), if_neg (by decide), if_neg (by decide), if_neg (by decide), if_neg (by decide), if_neg (by decide), if_neg (by decide), if_neg (by decide), if_neg (by decide), if_neg (by decide), if_neg (by decide), if_neg (by decide), if_pos rfl]
theorem flatR_no {n : Int} {s : ByteArray} {k : Nat} {op : Int} (h : ¬ (op = 2 ∨ op = 3 ∨ op = 6 ∨ op = 7 ∨ op = 8 ∨ op = 9 ∨ op = 11 ∨ op = 12 ∨ op = 13 ∨ op = 21 ∨ op = 22 ∨ op = 23 ∨ op = 24 ∨ op = 25)) : flatR op n s k = false := by
  unfold flatR
  rw [if_neg (by omega), if_neg (by omega), if_neg (by omega), if_neg (by omega), if_neg (by omega), if_neg (by omega), if_neg (by omega), if_neg (by omega), if_neg (by omega), if_neg (by omega), if_neg (by omega), if_neg (by omega), if_neg (by omega), if_neg (by omega)]
theorem rin_any (n a b : Int) (w : World) : Calls Try.prog 47 #[.int .i64 n, .int .i64 a, .int .i64 b] w fun e w' => e = .returned (.bool (inB n a b)) ∧ w = w' := by
  go_enter Try.func47, Try.ntmps47
  go_wp2
  all_goals
    go_ret
    refine ⟨ret_bool ?_, rfl⟩
    simp [inB] <;> omega
set_option maxHeartbeats 1000000 in
theorem rarity_any (n : Int) (w : World) : Calls Try.prog 83 #[.int .i64 n] w fun e w' => e = .returned (.int .i64 (ref46_arity n)) ∧ w = w' := by
  go_enter Try.func83, Try.ntmps83
  go_wp2
  all_goals
    go_ret
    refine ⟨ret_int ?_, rfl⟩
    simp only [beq_iff_eq, beq_eq_false_iff_ne, ne_eq] at *
    unfold ref46_arity
    repeat' split
    all_goals omega
set_option maxHeartbeats 1000000 in
set_option maxRecDepth 100000 in
theorem flatr_21_any (n : Int) (s : ByteArray) (a : Option Addr) (k c : Nat) (w : World) :
    Calls Try.prog 79 #[.agg #[.int .i64 21, .int .i64 n, .string s, .slice a k c]] w (FormOk (flatR 21 n s k) w) := by
  have hb := box_exp 21 n s (.slice a k c) w
  have hE : Hid (flatR 21 n s k = _) := flatR_21
  by_cases h0 : k = 0
  · subst h0
    by_cases h1 : s.size = 0
    · obtain rfl := size_zero h1
      clear h1
      by_cases h2 : 0 ≤ n
      · have r2 := Lib.hid (decide_eq_true h2)
        go_enter Try.func79, Try.ntmps79
        go_wp2_with fail
        go_ret
        exact ⟨by rw [hE.out]; rw [r2.out]; rfl, hb⟩
      · have r2 := Lib.hid (decide_eq_false h2)
        go_enter Try.func79, Try.ntmps79
        go_wp2_with fail
        go_ret
        exact ⟨by rw [hE.out]; rw [r2.out]; simp, hb⟩
    · obtain ⟨s1, s2, s3⟩ := size_some h1
      have r1 := Lib.hid (decide_eq_false h1)
      clear h1
      go_enter Try.func79, Try.ntmps79
      go_wp2_with fail
      go_ret
      exact ⟨by rw [hE.out]; rw [r1.out]; simp, hb⟩
  · have h1 : ¬ (k : Int) = 0 := by omega
    have h2 : ((k : Int) == 0) = false := beq_eq_false_iff_ne.2 h1
    have h3 : decide (k = 0) = false := decide_eq_false h0
    go_enter Try.func79, Try.ntmps79
    go_wp2_with fail
    go_ret
    exact ⟨by rw [hE.out]; rw [h3]; simp, hb⟩
set_option maxHeartbeats 1000000 in
set_option maxRecDepth 100000 in
theorem flatr_23_any (n : Int) (s : ByteArray) (a : Option Addr) (k c : Nat) (w : World) :
    Calls Try.prog 79 #[.agg #[.int .i64 23, .int .i64 n, .string s, .slice a k c]] w (FormOk (flatR 23 n s k) w) := by
  have hb := box_exp 23 n s (.slice a k c) w
  have hE : Hid (flatR 23 n s k = _) := flatR_23
  by_cases h0 : k = 0
  · subst h0
    by_cases h1 : s.size = 0
    · obtain rfl := size_zero h1
      clear h1
      by_cases h2 : 0 ≤ n
      · have r2 := Lib.hid (decide_eq_true h2)
        go_enter Try.func79, Try.ntmps79
        go_wp2_with fail
        go_ret
        exact ⟨by rw [hE.out]; rw [r2.out]; rfl, hb⟩
      · have r2 := Lib.hid (decide_eq_false h2)
        go_enter Try.func79, Try.ntmps79
        go_wp2_with fail
        go_ret
        exact ⟨by rw [hE.out]; rw [r2.out]; simp, hb⟩
    · obtain ⟨s1, s2, s3⟩ := size_some h1
      have r1 := Lib.hid (decide_eq_false h1)
      clear h1
      go_enter Try.func79, Try.ntmps79
      go_wp2_with fail
      go_ret
      exact ⟨by rw [hE.out]; rw [r1.out]; simp, hb⟩
  · have h1 : ¬ (k : Int) = 0 := by omega
    have h2 : ((k : Int) == 0) = false := beq_eq_false_iff_ne.2 h1
    have h3 : decide (k = 0) = false := decide_eq_false h0
    go_enter Try.func79, Try.ntmps79
    go_wp2_with fail
    go_ret
    exact ⟨by rw [hE.out]; rw [h3]; simp, hb⟩
set_option maxHeartbeats 1000000 in
set_option maxRecDepth 100000 in
theorem flatr_22_any (n : Int) (s : ByteArray) (a : Option Addr) (k c : Nat) (w : World) :
    Calls Try.prog 79 #[.agg #[.int .i64 22, .int .i64 n, .string s, .slice a k c]] w (FormOk (flatR 22 n s k) w) := by
  have hb := box_exp 22 n s (.slice a k c) w
  have hE : Hid (flatR 22 n s k = _) := flatR_22
  by_cases h0 : k = 0
  · subst h0
    by_cases h1 : s.size = 0
    · obtain rfl := size_zero h1
      clear h1
      by_cases h2 : n = 0
      · subst h2
        go_enter Try.func79, Try.ntmps79
        go_wp2_with fail
        go_ret
        exact ⟨by rw [hE.out]; rfl, hb⟩
      · have n1 : (n == 0) = false := beq_eq_false_iff_ne.2 h2
        have n2 : decide (n = 0) = false := decide_eq_false h2
        go_enter Try.func79, Try.ntmps79
        go_wp2_with fail
        go_ret
        exact ⟨by rw [hE.out]; rw [n2]; simp, hb⟩
    · obtain ⟨s1, s2, s3⟩ := size_some h1
      have r1 := Lib.hid (decide_eq_false h1)
      clear h1
      go_enter Try.func79, Try.ntmps79
      go_wp2_with fail
      go_ret
      exact ⟨by rw [hE.out]; rw [r1.out]; simp, hb⟩
  · have h1 : ¬ (k : Int) = 0 := by omega
    have h2 : ((k : Int) == 0) = false := beq_eq_false_iff_ne.2 h1
    have h3 : decide (k = 0) = false := decide_eq_false h0
    go_enter Try.func79, Try.ntmps79
    go_wp2_with fail
    go_ret
    exact ⟨by rw [hE.out]; rw [h3]; simp, hb⟩
set_option maxHeartbeats 1000000 in
set_option maxRecDepth 100000 in
theorem flatr_24_any (n : Int) (s : ByteArray) (a : Option Addr) (k c : Nat) (w : World) :
    Calls Try.prog 79 #[.agg #[.int .i64 24, .int .i64 n, .string s, .slice a k c]] w (FormOk (flatR 24 n s k) w) := by
  have hb := box_exp 24 n s (.slice a k c) w
  have hE : Hid (flatR 24 n s k = _) := flatR_24
  by_cases h0 : (k : Int) ≤ 1000
  · have r0 := Lib.hid (decide_eq_true (show k ≤ 1000 by omega))
    by_cases h1 : s.size = 0
    · obtain rfl := size_zero h1
      clear h1
      by_cases h2 : 0 ≤ n
      · have r2 := Lib.hid (decide_eq_true h2)
        go_enter Try.func79, Try.ntmps79
        go_wp2_with fail
        go_ret
        exact ⟨by rw [hE.out]; rw [r0.out, r2.out]; rfl, hb⟩
      · have r2 := Lib.hid (decide_eq_false h2)
        go_enter Try.func79, Try.ntmps79
        go_wp2_with fail
        go_ret
        exact ⟨by rw [hE.out]; rw [r0.out, r2.out]; simp, hb⟩
    · obtain ⟨s1, s2, s3⟩ := size_some h1
      have r1 := Lib.hid (decide_eq_false h1)
      clear h1
      go_enter Try.func79, Try.ntmps79
      go_wp2_with fail
      go_ret
      exact ⟨by rw [hE.out]; rw [r0.out, r1.out]; simp, hb⟩
  · have r0 := Lib.hid (decide_eq_false (show ¬ k ≤ 1000 by omega))
    go_enter Try.func79, Try.ntmps79
    go_wp2_with fail
    go_ret
    exact ⟨by rw [hE.out]; rw [r0.out]; simp, hb⟩
set_option maxHeartbeats 1000000 in
set_option maxRecDepth 100000 in
theorem flatr_25_any (n : Int) (s : ByteArray) (a : Option Addr) (k c : Nat) (w : World) :
    Calls Try.prog 79 #[.agg #[.int .i64 25, .int .i64 n, .string s, .slice a k c]] w (FormOk (flatR 25 n s k) w) := by
  have hb := box_exp 25 n s (.slice a k c) w
  have hE : Hid (flatR 25 n s k = _) := flatR_25
  by_cases h0 : k = 2
  · subst h0
    by_cases h1 : s.size = 0
    · obtain rfl := size_zero h1
      clear h1
      by_cases h2 : n = 0
      · subst h2
        go_enter Try.func79, Try.ntmps79
        go_wp2_with fail
        go_ret
        exact ⟨by rw [hE.out]; rfl, hb⟩
      · have n1 : (n == 0) = false := beq_eq_false_iff_ne.2 h2
        have n2 : decide (n = 0) = false := decide_eq_false h2
        go_enter Try.func79, Try.ntmps79
        go_wp2_with fail
        go_ret
        exact ⟨by rw [hE.out]; rw [n2]; simp, hb⟩
    · obtain ⟨s1, s2, s3⟩ := size_some h1
      have r1 := Lib.hid (decide_eq_false h1)
      clear h1
      go_enter Try.func79, Try.ntmps79
      go_wp2_with fail
      go_ret
      exact ⟨by rw [hE.out]; rw [r1.out]; simp, hb⟩
  · have h1 : ¬ (k : Int) = 2 := by omega
    have h2 : ((k : Int) == 2) = false := beq_eq_false_iff_ne.2 h1
    have h3 : decide (k = 2) = false := decide_eq_false h0
    go_enter Try.func79, Try.ntmps79
    go_wp2_with fail
    go_ret
    exact ⟨by rw [hE.out]; rw [h3]; simp, hb⟩
set_option maxHeartbeats 1000000 in
set_option maxRecDepth 100000 in
theorem flatr_2_any (n : Int) (s : ByteArray) (a : Option Addr) (k c : Nat) (w : World) :
    Calls Try.prog 79 #[.agg #[.int .i64 2, .int .i64 n, .string s, .slice a k c]] w (FormOk (flatR 2 n s k) w) := by
  have hb := box_exp 2 n s (.slice a k c) w
  have hE : Hid (flatR 2 n s k = _) := flatR_2
  by_cases h0 : k = 0
  · subst h0
    by_cases h1 : s.size = 0
    · obtain rfl := size_zero h1
      clear h1
      obtain ⟨bb, hbb⟩ : ∃ bb, inB n (-4503599627370496) 4503599627370496 = bb := ⟨_, rfl⟩
      have Hbb := Lib.hid hbb
      clear hbb
      cases bb
      · skip
        go_enter Try.func79, Try.ntmps79
        go_wp2_with fail
        refine (rin_any _ _ _ _).mono ?_
        rintro e w' ⟨rfl, rfl⟩
        rw [Hbb.out]
        go_wp2_with fail
        go_ret
        exact ⟨by rw [hE.out]; rw [Hbb.out]; simp, hb⟩
      · skip
        go_enter Try.func79, Try.ntmps79
        go_wp2_with fail
        refine (rin_any _ _ _ _).mono ?_
        rintro e w' ⟨rfl, rfl⟩
        rw [Hbb.out]
        go_wp2_with fail
        go_ret
        exact ⟨by rw [hE.out]; rw [Hbb.out]; rfl, hb⟩
    · obtain ⟨s1, s2, s3⟩ := size_some h1
      have r1 := Lib.hid (decide_eq_false h1)
      clear h1
      go_enter Try.func79, Try.ntmps79
      go_wp2_with fail
      go_ret
      exact ⟨by rw [hE.out]; rw [r1.out]; simp, hb⟩
  · have h1 : ¬ (k : Int) = 0 := by omega
    have h2 : ((k : Int) == 0) = false := beq_eq_false_iff_ne.2 h1
    have h3 : decide (k = 0) = false := decide_eq_false h0
    go_enter Try.func79, Try.ntmps79
    go_wp2_with fail
    go_ret
    exact ⟨by rw [hE.out]; rw [h3]; simp, hb⟩
set_option maxHeartbeats 1000000 in
set_option maxRecDepth 100000 in
theorem flatr_3_any (n : Int) (s : ByteArray) (a : Option Addr) (k c : Nat) (w : World) :
    Calls Try.prog 79 #[.agg #[.int .i64 3, .int .i64 n, .string s, .slice a k c]] w (FormOk (flatR 3 n s k) w) := by
  have hb := box_exp 3 n s (.slice a k c) w
  have hE : Hid (flatR 3 n s k = _) := flatR_3
  by_cases h0 : k = 0
  · subst h0
    by_cases h1 : n = 0
    · subst h1
      by_cases h2 : (s.size : Int) ≤ 16384
      · have r2 := Lib.hid (decide_eq_true (show s.size ≤ 16384 by omega))
        go_enter Try.func79, Try.ntmps79
        go_wp2_with fail
        go_ret
        exact ⟨by rw [hE.out]; rw [r2.out]; rfl, hb⟩
      · have r2 := Lib.hid (decide_eq_false (show ¬ s.size ≤ 16384 by omega))
        go_enter Try.func79, Try.ntmps79
        go_wp2_with fail
        go_ret
        exact ⟨by rw [hE.out]; rw [r2.out]; simp, hb⟩
    · have n1 : (n == 0) = false := beq_eq_false_iff_ne.2 h1
      have n2 : decide (n = 0) = false := decide_eq_false h1
      go_enter Try.func79, Try.ntmps79
      go_wp2_with fail
      go_ret
      exact ⟨by rw [hE.out]; rw [n2]; simp, hb⟩
  · have h1 : ¬ (k : Int) = 0 := by omega
    have h2 : ((k : Int) == 0) = false := beq_eq_false_iff_ne.2 h1
    have h3 : decide (k = 0) = false := decide_eq_false h0
    go_enter Try.func79, Try.ntmps79
    go_wp2_with fail
    go_ret
    exact ⟨by rw [hE.out]; rw [h3]; simp, hb⟩
set_option maxHeartbeats 1000000 in
set_option maxRecDepth 100000 in
theorem flatr_6_any (n : Int) (s : ByteArray) (a : Option Addr) (k c : Nat) (w : World) :
    Calls Try.prog 79 #[.agg #[.int .i64 6, .int .i64 n, .string s, .slice a k c]] w (FormOk (flatR 6 n s k) w) := by
  have hb := box_exp 6 n s (.slice a k c) w
  have hE : Hid (flatR 6 n s k = _) := flatR_6
  by_cases h0 : n = 0
  · subst h0
    by_cases h1 : s.size = 0
    · obtain rfl := size_zero h1
      clear h1
      by_cases h2 : (k : Int) ≤ 1000
      · have r2 := Lib.hid (decide_eq_true (show k ≤ 1000 by omega))
        go_enter Try.func79, Try.ntmps79
        go_wp2_with fail
        go_ret
        exact ⟨by rw [hE.out]; rw [r2.out]; rfl, hb⟩
      · have r2 := Lib.hid (decide_eq_false (show ¬ k ≤ 1000 by omega))
        go_enter Try.func79, Try.ntmps79
        go_wp2_with fail
        go_ret
        exact ⟨by rw [hE.out]; rw [r2.out]; simp, hb⟩
    · obtain ⟨s1, s2, s3⟩ := size_some h1
      have r1 := Lib.hid (decide_eq_false h1)
      clear h1
      go_enter Try.func79, Try.ntmps79
      go_wp2_with fail
      go_ret
      exact ⟨by rw [hE.out]; rw [r1.out]; simp, hb⟩
  · have n1 : (n == 0) = false := beq_eq_false_iff_ne.2 h0
    have n2 : decide (n = 0) = false := decide_eq_false h0
    go_enter Try.func79, Try.ntmps79
    go_wp2_with fail
    go_ret
    exact ⟨by rw [hE.out]; rw [n2]; simp, hb⟩
set_option maxHeartbeats 1000000 in
set_option maxRecDepth 100000 in
theorem flatr_7_any (n : Int) (s : ByteArray) (a : Option Addr) (k c : Nat) (w : World) :
    Calls Try.prog 79 #[.agg #[.int .i64 7, .int .i64 n, .string s, .slice a k c]] w (FormOk (flatR 7 n s k) w) := by
  have hb := box_exp 7 n s (.slice a k c) w
  have hE : Hid (flatR 7 n s k = _) := flatR_7
  by_cases h0 : k = 1
  · subst h0
    by_cases h1 : s.size = 0
    · obtain rfl := size_zero h1
      clear h1
      obtain ⟨bb, hbb⟩ : ∃ bb, inB n 0 999 = bb := ⟨_, rfl⟩
      have Hbb := Lib.hid hbb
      clear hbb
      cases bb
      · skip
        go_enter Try.func79, Try.ntmps79
        go_wp2_with fail
        refine (rin_any _ _ _ _).mono ?_
        rintro e w' ⟨rfl, rfl⟩
        rw [Hbb.out]
        go_wp2_with fail
        go_ret
        exact ⟨by rw [hE.out]; rw [Hbb.out]; simp, hb⟩
      · skip
        go_enter Try.func79, Try.ntmps79
        go_wp2_with fail
        refine (rin_any _ _ _ _).mono ?_
        rintro e w' ⟨rfl, rfl⟩
        rw [Hbb.out]
        go_wp2_with fail
        go_ret
        exact ⟨by rw [hE.out]; rw [Hbb.out]; rfl, hb⟩
    · obtain ⟨s1, s2, s3⟩ := size_some h1
      have r1 := Lib.hid (decide_eq_false h1)
      clear h1
      go_enter Try.func79, Try.ntmps79
      go_wp2_with fail
      go_ret
      exact ⟨by rw [hE.out]; rw [r1.out]; simp, hb⟩
  · have h1 : ¬ (k : Int) = 1 := by omega
    have h2 : ((k : Int) == 1) = false := beq_eq_false_iff_ne.2 h1
    have h3 : decide (k = 1) = false := decide_eq_false h0
    go_enter Try.func79, Try.ntmps79
    go_wp2_with fail
    go_ret
    exact ⟨by rw [hE.out]; rw [h3]; simp, hb⟩
set_option maxHeartbeats 1000000 in
set_option maxRecDepth 100000 in
theorem flatr_8_any (n : Int) (s : ByteArray) (a : Option Addr) (k c : Nat) (w : World) :
    Calls Try.prog 79 #[.agg #[.int .i64 8, .int .i64 n, .string s, .slice a k c]] w (FormOk (flatR 8 n s k) w) := by
  have hb := box_exp 8 n s (.slice a k c) w
  have hE : Hid (flatR 8 n s k = _) := flatR_8
  by_cases h0 : k = 1
  · subst h0
    by_cases h1 : s.size = 0
    · obtain rfl := size_zero h1
      clear h1
      obtain ⟨bb, hbb⟩ : ∃ bb, inB n 0 999 = bb := ⟨_, rfl⟩
      have Hbb := Lib.hid hbb
      clear hbb
      cases bb
      · skip
        go_enter Try.func79, Try.ntmps79
        go_wp2_with fail
        refine (rin_any _ _ _ _).mono ?_
        rintro e w' ⟨rfl, rfl⟩
        rw [Hbb.out]
        go_wp2_with fail
        go_ret
        exact ⟨by rw [hE.out]; rw [Hbb.out]; simp, hb⟩
      · skip
        go_enter Try.func79, Try.ntmps79
        go_wp2_with fail
        refine (rin_any _ _ _ _).mono ?_
        rintro e w' ⟨rfl, rfl⟩
        rw [Hbb.out]
        go_wp2_with fail
        go_ret
        exact ⟨by rw [hE.out]; rw [Hbb.out]; rfl, hb⟩
    · obtain ⟨s1, s2, s3⟩ := size_some h1
      have r1 := Lib.hid (decide_eq_false h1)
      clear h1
      go_enter Try.func79, Try.ntmps79
      go_wp2_with fail
      go_ret
      exact ⟨by rw [hE.out]; rw [r1.out]; simp, hb⟩
  · have h1 : ¬ (k : Int) = 1 := by omega
    have h2 : ((k : Int) == 1) = false := beq_eq_false_iff_ne.2 h1
    have h3 : decide (k = 1) = false := decide_eq_false h0
    go_enter Try.func79, Try.ntmps79
    go_wp2_with fail
    go_ret
    exact ⟨by rw [hE.out]; rw [h3]; simp, hb⟩
set_option maxHeartbeats 1000000 in
set_option maxRecDepth 100000 in
theorem flatr_9_any (n : Int) (s : ByteArray) (a : Option Addr) (k c : Nat) (w : World) :
    Calls Try.prog 79 #[.agg #[.int .i64 9, .int .i64 n, .string s, .slice a k c]] w (FormOk (flatR 9 n s k) w) := by
  have hb := box_exp 9 n s (.slice a k c) w
  have hE : Hid (flatR 9 n s k = _) := flatR_9
  by_cases h0 : n = 0
  · subst h0
    by_cases h1 : s.size = 0
    · obtain rfl := size_zero h1
      clear h1
      obtain ⟨bb, hbb⟩ : ∃ bb, inB k 2 1001 = bb := ⟨_, rfl⟩
      have Hbb := Lib.hid hbb
      clear hbb
      cases bb
      · skip
        go_enter Try.func79, Try.ntmps79
        go_wp2_with fail
        refine (rin_any _ _ _ _).mono ?_
        rintro e w' ⟨rfl, rfl⟩
        rw [Hbb.out]
        go_wp2_with fail
        go_ret
        exact ⟨by rw [hE.out]; rw [Hbb.out]; simp, hb⟩
      · skip
        go_enter Try.func79, Try.ntmps79
        go_wp2_with fail
        refine (rin_any _ _ _ _).mono ?_
        rintro e w' ⟨rfl, rfl⟩
        rw [Hbb.out]
        go_wp2_with fail
        go_ret
        exact ⟨by rw [hE.out]; rw [Hbb.out]; rfl, hb⟩
    · obtain ⟨s1, s2, s3⟩ := size_some h1
      have r1 := Lib.hid (decide_eq_false h1)
      clear h1
      go_enter Try.func79, Try.ntmps79
      go_wp2_with fail
      go_ret
      exact ⟨by rw [hE.out]; rw [r1.out]; simp, hb⟩
  · have n1 : (n == 0) = false := beq_eq_false_iff_ne.2 h0
    have n2 : decide (n = 0) = false := decide_eq_false h0
    go_enter Try.func79, Try.ntmps79
    go_wp2_with fail
    go_ret
    exact ⟨by rw [hE.out]; rw [n2]; simp, hb⟩
set_option maxHeartbeats 1000000 in
set_option maxRecDepth 100000 in
theorem flatr_11_any (n : Int) (s : ByteArray) (a : Option Addr) (k c : Nat) (w : World) :
    Calls Try.prog 79 #[.agg #[.int .i64 11, .int .i64 n, .string s, .slice a k c]] w (FormOk (flatR 11 n s k) w) := by
  have hb := box_exp 11 n s (.slice a k c) w
  have hE : Hid (flatR 11 n s k = _) := flatR_11
  by_cases h0 : k = 2
  · subst h0
    by_cases h1 : n = 0
    · subst h1
      by_cases h2 : s.size = 0
      · obtain rfl := size_zero h2
        clear h2
        go_enter Try.func79, Try.ntmps79
        go_wp2_with fail
        go_ret
        exact ⟨by rw [hE.out]; rfl, hb⟩
      · obtain ⟨s1, s2, s3⟩ := size_some h2
        have r2 := Lib.hid (decide_eq_false h2)
        clear h2
        go_enter Try.func79, Try.ntmps79
        go_wp2_with fail
        go_ret
        exact ⟨by rw [hE.out]; rw [r2.out]; simp, hb⟩
    · have n1 : (n == 0) = false := beq_eq_false_iff_ne.2 h1
      have n2 : decide (n = 0) = false := decide_eq_false h1
      go_enter Try.func79, Try.ntmps79
      go_wp2_with fail
      go_ret
      exact ⟨by rw [hE.out]; rw [n2]; simp, hb⟩
  · have h1 : ¬ (k : Int) = 2 := by omega
    have h2 : ((k : Int) == 2) = false := beq_eq_false_iff_ne.2 h1
    have h3 : decide (k = 2) = false := decide_eq_false h0
    go_enter Try.func79, Try.ntmps79
    go_wp2_with fail
    go_ret
    exact ⟨by rw [hE.out]; rw [h3]; simp, hb⟩
set_option maxHeartbeats 1000000 in
set_option maxRecDepth 100000 in
theorem flatr_12_any (n : Int) (s : ByteArray) (a : Option Addr) (k c : Nat) (w : World) :
    Calls Try.prog 79 #[.agg #[.int .i64 12, .int .i64 n, .string s, .slice a k c]] w (FormOk (flatR 12 n s k) w) := by
  have hb := box_exp 12 n s (.slice a k c) w
  have hE : Hid (flatR 12 n s k = _) := flatR_12
  by_cases h0 : s.size = 0
  · obtain rfl := size_zero h0
    clear h0
    obtain ⟨bb, hbb⟩ : ∃ bb, inB n 1 14 = bb := ⟨_, rfl⟩
    have Hbb := Lib.hid hbb
    clear hbb
    cases bb
    · skip
      go_enter Try.func79, Try.ntmps79
      go_wp2_with fail
      refine (rin_any _ _ _ _).mono ?_
      rintro e w' ⟨rfl, rfl⟩
      rw [Hbb.out]
      go_wp2_with fail
      go_ret
      exact ⟨by rw [hE.out]; rw [Hbb.out]; simp, hb⟩
    · skip
      by_cases h2 : (k : Int) = ref46_arity n
      · have h5 : ((k : Int) == ref46_arity n) = true := beq_iff_eq.2 h2
        go_enter Try.func79, Try.ntmps79
        go_wp2_with fail
        refine (rin_any _ _ _ _).mono ?_
        rintro e w' ⟨rfl, rfl⟩
        rw [Hbb.out]
        go_wp2_with fail
        refine (rarity_any _ _).mono ?_
        rintro e w' ⟨rfl, rfl⟩
        go_wp2_with fail
        go_ret
        exact ⟨by rw [hE.out]; rw [Hbb.out, decide_eq_true h2]; rfl, hb⟩
      · have h5 : ((k : Int) == ref46_arity n) = false := beq_eq_false_iff_ne.2 h2
        go_enter Try.func79, Try.ntmps79
        go_wp2_with fail
        refine (rin_any _ _ _ _).mono ?_
        rintro e w' ⟨rfl, rfl⟩
        rw [Hbb.out]
        go_wp2_with fail
        refine (rarity_any _ _).mono ?_
        rintro e w' ⟨rfl, rfl⟩
        go_wp2_with fail
        go_ret
        exact ⟨by rw [hE.out]; rw [Hbb.out, decide_eq_false h2]; rfl, hb⟩
  · obtain ⟨s1, s2, s3⟩ := size_some h0
    have r0 := Lib.hid (decide_eq_false h0)
    clear h0
    go_enter Try.func79, Try.ntmps79
    go_wp2_with fail
    go_ret
    exact ⟨by rw [hE.out]; rw [r0.out]; simp, hb⟩
set_option maxHeartbeats 1000000 in
set_option maxRecDepth 100000 in
theorem flatr_13_any (n : Int) (s : ByteArray) (a : Option Addr) (k c : Nat) (w : World) :
    Calls Try.prog 79 #[.agg #[.int .i64 13, .int .i64 n, .string s, .slice a k c]] w (FormOk (flatR 13 n s k) w) := by
  have hb := box_exp 13 n s (.slice a k c) w
  have hE : Hid (flatR 13 n s k = _) := flatR_13
  by_cases h0 : k = 0
  · subst h0
    by_cases h1 : s.size = 0
    · obtain rfl := size_zero h1
      clear h1
      obtain ⟨bb, hbb⟩ : ∃ bb, inB n 1 1000000 = bb := ⟨_, rfl⟩
      have Hbb := Lib.hid hbb
      clear hbb
      cases bb
      · skip
        go_enter Try.func79, Try.ntmps79
        go_wp2_with fail
        refine (rin_any _ _ _ _).mono ?_
        rintro e w' ⟨rfl, rfl⟩
        rw [Hbb.out]
        go_wp2_with fail
        go_ret
        exact ⟨by rw [hE.out]; rw [Hbb.out]; simp, hb⟩
      · skip
        go_enter Try.func79, Try.ntmps79
        go_wp2_with fail
        refine (rin_any _ _ _ _).mono ?_
        rintro e w' ⟨rfl, rfl⟩
        rw [Hbb.out]
        go_wp2_with fail
        go_ret
        exact ⟨by rw [hE.out]; rw [Hbb.out]; rfl, hb⟩
    · obtain ⟨s1, s2, s3⟩ := size_some h1
      have r1 := Lib.hid (decide_eq_false h1)
      clear h1
      go_enter Try.func79, Try.ntmps79
      go_wp2_with fail
      go_ret
      exact ⟨by rw [hE.out]; rw [r1.out]; simp, hb⟩
  · have h1 : ¬ (k : Int) = 0 := by omega
    have h2 : ((k : Int) == 0) = false := beq_eq_false_iff_ne.2 h1
    have h3 : decide (k = 0) = false := decide_eq_false h0
    go_enter Try.func79, Try.ntmps79
    go_wp2_with fail
    go_ret
    exact ⟨by rw [hE.out]; rw [h3]; simp, hb⟩
set_option maxHeartbeats 1000000 in
set_option maxRecDepth 100000 in
theorem flatr_no_any (n : Int) (s : ByteArray) (a : Option Addr) (k c : Nat) (w : World) (op : Int) (h : ¬ (op = 2 ∨ op = 3 ∨ op = 6 ∨ op = 7 ∨ op = 8 ∨ op = 9 ∨ op = 11 ∨ op = 12 ∨ op = 13 ∨ op = 21 ∨ op = 22 ∨ op = 23 ∨ op = 24 ∨ op = 25)) :
    Calls Try.prog 79 #[.agg #[.int .i64 op, .int .i64 n, .string s, .slice a k c]] w (FormOk (flatR op n s k) w) := by
  have hb := box_exp op n s (.slice a k c) w
  have hE : Hid (flatR op n s k = false) := flatR_no h
  have z2 : ¬ op = 2 := by omega
  have y2 : (op == 2) = false := beq_eq_false_iff_ne.2 z2
  have z3 : ¬ op = 3 := by omega
  have y3 : (op == 3) = false := beq_eq_false_iff_ne.2 z3
  have z6 : ¬ op = 6 := by omega
  have y6 : (op == 6) = false := beq_eq_false_iff_ne.2 z6
  have z7 : ¬ op = 7 := by omega
  have y7 : (op == 7) = false := beq_eq_false_iff_ne.2 z7
  have z8 : ¬ op = 8 := by omega
  have y8 : (op == 8) = false := beq_eq_false_iff_ne.2 z8
  have z9 : ¬ op = 9 := by omega
  have y9 : (op == 9) = false := beq_eq_false_iff_ne.2 z9
  have z11 : ¬ op = 11 := by omega
  have y11 : (op == 11) = false := beq_eq_false_iff_ne.2 z11
  have z12 : ¬ op = 12 := by omega
  have y12 : (op == 12) = false := beq_eq_false_iff_ne.2 z12
  have z13 : ¬ op = 13 := by omega
  have y13 : (op == 13) = false := beq_eq_false_iff_ne.2 z13
  have z21 : ¬ op = 21 := by omega
  have y21 : (op == 21) = false := beq_eq_false_iff_ne.2 z21
  have z22 : ¬ op = 22 := by omega
  have y22 : (op == 22) = false := beq_eq_false_iff_ne.2 z22
  have z23 : ¬ op = 23 := by omega
  have y23 : (op == 23) = false := beq_eq_false_iff_ne.2 z23
  have z24 : ¬ op = 24 := by omega
  have y24 : (op == 24) = false := beq_eq_false_iff_ne.2 z24
  have z25 : ¬ op = 25 := by omega
  have y25 : (op == 25) = false := beq_eq_false_iff_ne.2 z25
  clear h
  go_enter Try.func79, Try.ntmps79
  go_wp2_with fail
  go_ret
  exact ⟨by rw [hE.out]; rfl, hb⟩
theorem flatr_any (op n : Int) (s : ByteArray) (a : Option Addr) (k c : Nat) (w : World) : Calls Try.prog 79 #[.agg #[.int .i64 op, .int .i64 n, .string s, .slice a k c]] w (FormOk (flatR op n s k) w) := by
  by_cases h : op = 2 ∨ op = 3 ∨ op = 6 ∨ op = 7 ∨ op = 8 ∨ op = 9 ∨ op = 11 ∨ op = 12 ∨ op = 13 ∨ op = 21 ∨ op = 22 ∨ op = 23 ∨ op = 24 ∨ op = 25
  · rcases h with rfl | rfl | rfl | rfl | rfl | rfl | rfl | rfl | rfl | rfl | rfl | rfl | rfl | rfl
    · exact flatr_2_any n s a k c w
    · exact flatr_3_any n s a k c w
    · exact flatr_6_any n s a k c w
    · exact flatr_7_any n s a k c w
    · exact flatr_8_any n s a k c w
    · exact flatr_9_any n s a k c w
    · exact flatr_11_any n s a k c w
    · exact flatr_12_any n s a k c w
    · exact flatr_13_any n s a k c w
    · exact flatr_21_any n s a k c w
    · exact flatr_22_any n s a k c w
    · exact flatr_23_any n s a k c w
    · exact flatr_24_any n s a k c w
    · exact flatr_25_any n s a k c w
  · exact flatr_no_any n s a k c w op h
end Go.Proofs.Ytidolpcbbbakmaa
namespace Go.Proofs.Ytidolpcbbbakmaa
open Go Go.RowKit
open Go.Maps

def cloN (n _ : Int) : Bool := decide (0 ≤ n)
theorem form_ref (caps loc op n : Int) (s : ByteArray) (k : Nat) : formB caps cloN loc op n s k = (flatR op n s k && (!(decide (op = 21) && decide (loc ≤ n)) && !(decide (op = 23) && decide (caps ≤ n)))) := by
  by_cases h : op = 2 ∨ op = 3 ∨ op = 6 ∨ op = 7 ∨ op = 8 ∨ op = 9 ∨ op = 11 ∨ op = 12 ∨ op = 13 ∨ op = 21 ∨ op = 22 ∨ op = 23 ∨ op = 24 ∨ op = 25
  · by_cases h3 : op = 3
    · subst h3
      rw [formE_3 (.inl rfl), flatR_3]; simp
    · by_cases hs : s.size = 0
      · rcases h with rfl | rfl | rfl | rfl | rfl | rfl | rfl | rfl | rfl | rfl | rfl | rfl | rfl | rfl
        · rw [formE_2 (.inr hs), flatR_2]; simp [hs]
        · exact absurd rfl h3
        · rw [formE_6 (.inr hs), flatR_6]; simp [hs]
        · rw [formE_7 (.inr hs), flatR_7]; simp [hs]
        · rw [formE_8 (.inr hs), flatR_8]; simp [hs]
        · rw [formE_9 (.inr hs), flatR_9]; simp [hs]
        · rw [formE_11 (.inr hs), flatR_11]; simp [hs, Bool.and_comm]
        · rw [formE_12 (.inr hs), flatR_12]; simp [hs]
        · rw [formE_13 (.inr hs), flatR_13]; simp [hs]
        · rw [formE_21 (.inr hs), flatR_21, Bool.eq_iff_iff]; simp [hs, inB]; omega
        · rw [formE_22 (.inr hs), flatR_22]; simp [hs]
        · rw [formE_23 (.inr hs), flatR_23, Bool.eq_iff_iff]; simp [hs, inB]; omega
        · rw [formE_24 (.inr hs), flatR_24]; simp [hs, cloN]
        · rw [formE_25 (.inr hs), flatR_25]; simp [hs, Bool.and_comm]
      · rw [formE_s h3 hs]
        rcases h with rfl | rfl | rfl | rfl | rfl | rfl | rfl | rfl | rfl | rfl | rfl | rfl | rfl | rfl
        · rw [flatR_2]; simp [hs]
        · exact absurd rfl h3
        · rw [flatR_6]; simp [hs]
        · rw [flatR_7]; simp [hs]
        · rw [flatR_8]; simp [hs]
        · rw [flatR_9]; simp [hs]
        · rw [flatR_11]; simp [hs]
        · rw [flatR_12]; simp [hs]
        · rw [flatR_13]; simp [hs]
        · rw [flatR_21]; simp [hs]
        · rw [flatR_22]; simp [hs]
        · rw [flatR_23]; simp [hs]
        · rw [flatR_24]; simp [hs]
        · rw [flatR_25]; simp [hs]
  · rw [formE_no h, flatR_no h]; rfl
theorem further_any (op n : Int) (s : ByteArray) (v : Value) (part : Int) (w : World) : Calls Try.prog 80 #[.agg #[.int .i64 op, .int .i64 n, .string s, v], .int .i64 part] w (FormOk (bindB op part) w) := by
  have hb := box_exp op n s v w
  by_cases hp : 0 < part
  · have Hp := Lib.hid (decide_eq_true hp)
    by_cases h11 : op = 11
    · subst h11
      go_enter Try.func80, Try.ntmps80
      go_wp2_with fail
      go_ret
      exact ⟨by unfold bindB; rw [Hp.out]; rfl, hb⟩
    · have y11 : (op == 11) = false := beq_eq_false_iff_ne.2 h11
      by_cases h9 : op = 9
      · subst h9
        go_enter Try.func80, Try.ntmps80
        go_wp2_with fail
        go_ret
        exact ⟨by unfold bindB; rw [Hp.out]; rfl, hb⟩
      · have y9 : (op == 9) = false := beq_eq_false_iff_ne.2 h9
        have Hz : Hid (bindB op part = false) := by unfold bindB; rw [y11, y9]; rfl
        go_enter Try.func80, Try.ntmps80
        go_wp2_with fail
        go_ret
        exact ⟨by rw [Hz.out]; rfl, hb⟩
  · have Hz := Lib.hid (show bindB op part = false from by unfold bindB; rw [decide_eq_false hp]; simp)
    go_enter Try.func80, Try.ntmps80
    go_wp2_with fail
    go_ret
    exact ⟨by rw [Hz.out]; rfl, hb⟩
def CountOk (x : ExpD) (w : World) (e : Ending) (w' : World) : Prop := e = .returned (.int .i64 (sizeX x)) ∧ Below w.heap.size w w'
set_option maxHeartbeats 2000000 in
set_option maxRecDepth 100000 in
theorem count_any (B : Nat) (x : ExpD) : ∀ (w : World) (left depth : Nat), B ≤ w.heap.size → IsExp B w x → sizeX x ≤ left → left ≤ 100000 → depth + heightX x ≤ 401 → Calls Try.prog 72 #[expV x, .int .i64 left, .int .i64 depth] w (CountOk x w) := by
  induction x using ExpD.induct with
  | h op n s lv l ih =>
    intro w left depth hBw hx hsz hlf hd
    rw [expV_mk]
    have HIH := Lib.hid ih
    obtain ⟨hr, hm, hy⟩ := hx.parts
    rw [sizeX_mk] at hsz
    rw [heightX_mk] at hd
    have hll := length_le l
    have HY := Lib.hid hy
    have HR := Lib.hid hr
    obtain ⟨a, c, rfl, hlc, _⟩ := hr
    have hb1 := box_exp op n s (.slice a l.length c) w
    have gP := new_heap w (.cells #[.int .i64 op, .int .i64 n, .string s, .slice a l.length c] 36)
    have HGP := Lib.hid gP
    have hd0 : ¬ (400 : Int) < (depth : Int) := by omega
    clear ih hx hy gP hm
    go_enter Try.func72, Try.ntmps72
    go_wp2_with fail
    generalize w.alloc (.cells #[.int .i64 op, .int .i64 n, .string s, .slice a l.length c] 36) = W at *
    have hBW := Below.refl W.heap.size W
    go_loopw [7, 8] (fun m i wr => ∃ (k ms : Nat), k ≤ l.length ∧ i = .int .i64 k ∧ m = .int .i64 ms ∧ Hid (ms = sizeL (l.take k) + 1) ∧ Below w.heap.size w wr ∧ Below W.heap.size W wr) (fun _ i _ => l.length - (intOf i).toNat)
    case atStart => exact ⟨0, 1, Nat.zero_le _, rfl, rfl, show 1 = sizeL (l.take 0) + 1 from by rw [List.take_zero, sizeL_nil], hb1, hBW⟩
    case round =>
      obtain ⟨k, ms, hk, rfl, rfl, HS, hbr, hbW⟩ := hrel
      have hst := sizeL_take l k
      have hms := HS.out
      have gPr := (hbW.block _ (heap_lt HGP.out)).trans HGP.out
      obtain ⟨p0, p1, p2, p3⟩ := exp_box gPr
      by_cases hkl : k < l.length
      · obtain ⟨b, off, rfl, hbB, c0, c1, c2, c3⟩ := parts_at HR.out (hbr.mono hBw) k hkl
        have hmem := getD_mem default l k hkl
        have hT := take_one default l k hkl
        have hT1 : sizeL (l.take (k + 1)) = sizeL (l.take k) + sizeX (l.getD k default) := by rw [hT, sizeL_snoc]
        have hyk := HY.out _ hmem
        have hih := HIH.out _ hmem
        have hT2 := sizeL_take l (k + 1)
        have hhm := heightL_mem hmem
        clear hT hmem
        generalize l.getD k default = x at *
        have hpx := sizeX_pos x
        obtain ⟨xo, xn, xs, xv, xl⟩ := x
        obtain ⟨xa, xc, rfl, _⟩ := hyk.parts.1
        simp only [ExpD.op, ExpD.n, ExpD.s, ExpD.lv] at c0 c1 c2 c3
        have HM := Lib.hid (hih wr (left - ms) (depth + 1) (by have := hbr.size; omega) (hyk.under (hbr.mono hBw)) (by omega) (by omega) (by omega))
        rw [expV_mk] at HM
        generalize hsx : sizeX (.mk xo xn xs (.slice xa xl.length xc) xl) = sx at *
        unfold CountOk at HM
        rw [hsx] at HM
        have hlt : ms < left := by omega
        have hsub : ((left - ms : Nat) : Int) = (left : Int) - (ms : Int) := by omega
        have hdd : ((depth + 1 : Nat) : Int) = (depth : Int) + 1 := by omega
        rw [hsub, hdd] at HM
        have HS2 : Hid (ms + sx = sizeL (l.take (k + 1)) + 1) := show ms + sx = _ from by omega
        have hsx2 : ms + sx ≤ left := by omega
        clear hih hyk hst hms hT1 hT2 hsub hdd
        go_wp2_with fail
        refine HM.out.mono ?_
        rintro e w2 ⟨rfl, hb4⟩
        have hbe := hbr.trans (hb4.mono hbr.size)
        have hbe2 := hbW.trans (hb4.mono hbW.size)
        clear hb4 c0 c1 c2 c3 p0 p1 p2 p3 HM
        go_wp2_with fail
        go_roundw
        case rel => exact ⟨k + 1, ms + sx, by omega, by go_num, by go_num, HS2, hbe, hbe2⟩
        case measure => simp [intOf]; omega
      · go_wp2_with fail
        go_ret
        have := HS.out
        rw [List.take_of_length_le (by omega)] at this
        refine ⟨?_, hbr⟩
        rw [sizeX_mk, ← this]
        rfl
end Go.Proofs.Ytidolpcbbbakmaa
