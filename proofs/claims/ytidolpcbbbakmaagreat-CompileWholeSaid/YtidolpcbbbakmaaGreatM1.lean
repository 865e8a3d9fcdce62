/- Effect of an instruction: the program's and the reference's. -/
import Derived.Test.YtidolpcbbbakmaaGreatProg
import Derived.WalkKit
import Derived.WalkLawsBesides
import Derived.WalkSpells
import Derived.Outline
import Derived.BigQuiet
import Derived.Deep.QuietTactic
import Derived.Lib.Hide
namespace Go.Proofs.YtidolpcbbbakmaaGreat
open Go Go.RowKit

theorem ret_int {k : IntKind} {a b : Int} (h : a = b) : Ending.returned (.int k a) = .returned (.int k b) := by rw [h]
theorem ret_bool {a b : Bool} (h : a = b) : Ending.returned (.bool a) = .returned (.bool b) := by rw [h]
theorem bdrewN {B : Nat} {a w : World} (h : Below B a w) (n : Nat) : Below B a (w.drewN n) := h.trans ⟨rfl, rfl, rfl, Nat.le_refl _, fun _ _ => rfl⟩

def inB (n a b : Int) : Bool := decide (a ≤ n) && decide (n ≤ b)
theorem within_any (n a b : Int) (w : World) :
    Calls Tryz.prog 61 #[.int .i64 n, .int .i64 a, .int .i64 b] w fun e w' => e = .returned (.bool (inB n a b)) ∧ w = w' := by
  go_enter Tryz.func61, Tryz.ntmps61
  go_wp2
  all_goals
    go_ret
    refine ⟨ret_bool ?_, rfl⟩
    simp [inB] <;> omega
theorem in_any (n a b : Int) (w : World) :
    Calls Tryz.prog 25 #[.int .i64 n, .int .i64 a, .int .i64 b] w fun e w' => e = .returned (.bool (inB n a b)) ∧ w = w' := by
  go_enter Tryz.func25, Tryz.ntmps25
  go_wp2
  all_goals
    go_ret
    refine ⟨ret_bool ?_, rfl⟩
    simp [inB] <;> omega
def knownB (op : Int) : Bool := inB op 1 16
theorem known_any (n : Int) (w : World) :
    Calls Tryz.prog 63 #[.int .i64 n] w fun e w' => e = .returned (.bool (knownB n)) ∧ w = w' := by
  go_enter Tryz.func63, Tryz.ntmps63
  go_wp2_with fail
  refine (within_any _ _ _ _).mono ?_
  rintro e w' ⟨rfl, rfl⟩
  go_wp2_with fail
  go_ret
  exact ⟨rfl, rfl⟩

def ref46_arity (n : Int) : Int := if n = 6 ∨ n = 11 ∨ n = 13 ∨ n = 14 then 1 else if 1 ≤ n ∧ n ≤ 14 then 2 else 0
theorem taken_any (n : Int) (w : World) (h1 : 1 ≤ n) (h14 : n ≤ 14) :
    Calls Tryz.prog 62 #[.int .i64 n] w fun e w' => e = .returned (.int .i64 (ref46_arity n)) ∧ w = w' := by
  go_enter Tryz.func62, Tryz.ntmps62
  go_wp2
  all_goals
    go_ret
    refine ⟨ret_int ?_, rfl⟩
    simp only [beq_iff_eq, beq_eq_false_iff_ne, ne_eq] at *
    unfold ref46_arity
    repeat' split
    all_goals omega

theorem arity_any (n : Int) (w : World) :
    Calls Tryz.prog 55 #[.int .i64 n] w fun e w' => e = .returned (.int .i64 (ref46_arity n)) ∧ w = w' := by
  go_enter Tryz.func55, Tryz.ntmps55
  go_wp2
  all_goals
    go_ret
    refine ⟨ret_int ?_, rfl⟩
    simp only [beq_iff_eq, beq_eq_false_iff_ne, ne_eq] at *
    unfold ref46_arity
    repeat' split
    all_goals omega

def effT (op a b : Int) : Int × Int × Int :=
  if op = 1 ∨ op = 2 ∨ op = 3 ∨ op = 5 ∨ op = 6 then (0, 1, 0)
  else if op = 4 ∨ op = 9 ∨ op = 13 then (1, 0, 0)
  else if op = 7 then (if inB b 0 1000 = true then (b, 1, 0) else (0, 0, 2))
  else if op = 10 then (if inB a 0 1000 = true then (a, 1, 0) else (0, 0, 2))
  else if op = 8 then (2, 1, 0)
  else if op = 11 ∨ op = 12 then (1, 1, 0)
  else if op = 14 ∨ op = 16 then (0, 0, 0)
  else if op = 15 then (if inB a 1 14 = true then (ref46_arity a, 1, 0) else (0, 0, 2))
  else (0, 0, 2)
def effV (op a b : Int) : Value := .tuple #[.int .i64 (effT op a b).1, .int .i64 (effT op a b).2.1, .int .i64 (effT op a b).2.2]
theorem op_cases (op : Int) : op = 1 ∨ op = 2 ∨ op = 3 ∨ op = 4 ∨ op = 5 ∨ op = 6 ∨ op = 7 ∨ op = 8 ∨ op = 9 ∨ op = 10 ∨ op = 11 ∨ op = 12 ∨ op = 13 ∨ op = 14 ∨ op = 15 ∨ op = 16 ∨ (op < 1 ∨ 16 < op) := by omega
theorem arity_pos (a : Int) : (1 ≤ ref46_arity a ∧ ref46_arity a ≤ 2) ↔ inB a 1 14 = true := by
  unfold ref46_arity inB
  simp only [Bool.and_eq_true, decide_eq_true_eq]
  repeat' split
  all_goals omega

set_option maxHeartbeats 1000000 in
theorem effect_any (op a b : Int) (w : World) :
    Calls Tryz.prog 33 #[.agg #[.int .i64 op, .int .i64 a, .int .i64 b]] w fun e w' => e = .returned (effV op a b) ∧ Below w.heap.size w w' := by
  rcases op_cases op with rfl | rfl | rfl | rfl | rfl | rfl | rfl | rfl | rfl | rfl | rfl | rfl | rfl | rfl | rfl | rfl | h
  all_goals
    go_enter Tryz.func33, Tryz.ntmps33
    go_wp2_with (first | (go_at_call 61; refine (within_any _ _ _ _).mono ?_; rintro e w' ⟨rfl, rfl⟩) | (go_at_call 62; refine (taken_any _ _ (by simp_all [inB]) (by simp_all [inB])).mono ?_; rintro e w' ⟨rfl, rfl⟩))
  all_goals
    go_ret3
    refine ⟨?_, (Below.refl _ _).alloc (Nat.le_refl _) _⟩
    first
      | (simp_all [effV, effT]; done)
      | (unfold effV effT
         rw [if_neg (by omega), if_neg (by omega), if_neg (by omega), if_neg (by omega), if_neg (by omega), if_neg (by omega), if_neg (by omega), if_neg (by omega)]
         rfl)

theorem arity_val (a : Int) : (inB a 1 14 = true → (ref46_arity a == 0) = false ∧ inB (ref46_arity a) 0 1000 = true) ∧ (inB a 1 14 = false → ref46_arity a = 0) := by
  unfold inB
  constructor
  · intro h
    have := (arity_pos a).2 (by unfold inB; exact h)
    constructor
    · simp; omega
    · simp; omega
  · intro h
    rcases Decidable.em (1 ≤ ref46_arity a ∧ ref46_arity a ≤ 2) with h2 | h2
    · have := (arity_pos a).1 h2; unfold inB at this; rw [this] at h; cases h
    · unfold ref46_arity at h2 ⊢
      repeat' split
      all_goals simp_all
theorem rEffect_15 (a b : Int) (w : World) :
    Calls Tryz.prog 59 #[.agg #[.int .i64 15, .int .i64 a, .int .i64 b]] w fun e w' => e = .returned (effV 15 a b) ∧ Below w.heap.size w w' := by
  obtain ⟨bb, hbb⟩ : ∃ bb, inB a 1 14 = bb := ⟨_, rfl⟩
  have ha := arity_val a
  have Hbb := Lib.hid hbb
  cases bb
  · have h0 := Lib.hid (ha.2 hbb)
    clear ha hbb
    go_enter Tryz.func59, Tryz.ntmps59
    go_wp2_with fail
    refine (arity_any _ _).mono ?_
    rintro e w' ⟨rfl, rfl⟩
    rw [h0.out]
    go_wp2_with fail
    go_ret3
    refine ⟨?_, (Below.refl _ _).alloc (Nat.le_refl _) _⟩
    unfold effV effT
    simp [Hbb.out]
  · obtain ⟨h1, h2⟩ := ha.1 hbb
    clear ha hbb
    have H2 := Lib.hid h2
    clear h2
    go_enter Tryz.func59, Tryz.ntmps59
    go_wp2_with fail
    refine (arity_any _ _).mono ?_
    rintro e w' ⟨rfl, rfl⟩
    go_wp2_with fail
    refine (in_any _ _ _ _).mono ?_
    rintro e w' ⟨rfl, rfl⟩
    rw [H2.out]
    go_wp2_with fail
    go_ret3
    refine ⟨?_, (Below.refl _ _).alloc (Nat.le_refl _) _⟩
    unfold effV effT
    simp [Hbb.out]

set_option maxHeartbeats 1000000 in
theorem rEffect_any (op a b : Int) (w : World) :
    Calls Tryz.prog 59 #[.agg #[.int .i64 op, .int .i64 a, .int .i64 b]] w fun e w' => e = .returned (effV op a b) ∧ Below w.heap.size w w' := by
  rcases op_cases op with rfl | rfl | rfl | rfl | rfl | rfl | rfl | rfl | rfl | rfl | rfl | rfl | rfl | rfl | rfl | rfl | h
  case inr.inr.inr.inr.inr.inr.inr.inr.inr.inr.inr.inr.inr.inr.inl => exact rEffect_15 a b w
  all_goals
    go_enter Tryz.func59, Tryz.ntmps59
    go_wp2_with (go_at_call 25; refine (in_any _ _ _ _).mono ?_; rintro e w' ⟨rfl, rfl⟩)
  all_goals
    go_ret3
    refine ⟨?_, (Below.refl _ _).alloc (Nat.le_refl _) _⟩
    first
      | (simp_all [effV, effT]; done)
      | (simp_all [effV, effT, inB]; done)
      | (unfold effV effT
         rw [if_neg (by omega), if_neg (by omega), if_neg (by omega), if_neg (by omega), if_neg (by omega), if_neg (by omega), if_neg (by omega), if_neg (by omega)]
         rfl)
end Go.Proofs.YtidolpcbbbakmaaGreat
