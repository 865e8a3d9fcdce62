/- Contracts of the small functions of ident and its reference: byte classes, names, labels. -/
import Derived.Test.YtbjjimfdbbhjgaaDoorProg
import Derived.WalkKit
import Derived.WalkLawsBesides
import Derived.WalkSpells
import Derived.Outline
import Derived.BigQuiet
import Derived.Deep.QuietTactic
import Derived.Lib.Hide
import Derived.Lib.ConvBytes
import Derived.Lib.Strings
namespace Go.Proofs.YtbjjimfdbbhjgaaDoor
open Go Go.RowKit

theorem ret_int {k : IntKind} {a b : Int} (h : a = b) : Ending.returned (.int k a) = .returned (.int k b) := by rw [h]
theorem ret_bool {a b : Bool} (h : a = b) : Ending.returned (.bool a) = .returned (.bool b) := by rw [h]

def cls (c : Int) : Int :=
  if 97 ≤ c ∧ c ≤ 122 then 1 else if 65 ≤ c ∧ c ≤ 90 then 2 else if 48 ≤ c ∧ c ≤ 57 then 3 else if c = 95 then 4 else if c = 46 then 5 else 0

def smallB (c : Int) : Bool := decide (97 ≤ c ∧ c ≤ 122)
def capB (c : Int) : Bool := decide (65 ≤ c ∧ c ≤ 90)
def digB (c : Int) : Bool := decide (48 ≤ c ∧ c ≤ 57)
def innB (c : Int) : Bool := smallB c || capB c || digB c || (c == 95)

theorem of_any (c : Int) (w : World) (h0 : 0 ≤ c) (h1 : c ≤ 255) :
    Calls Tryd.prog 51 #[.int .u8 c] w fun e w' => e = .returned (.int .i64 (cls c)) ∧ w = w' := by
  go_enter Tryd.func51, Tryd.ntmps51
  go_wp2
  all_goals
    go_ret
    refine ⟨ret_int ?_, rfl⟩
    try simp only [beq_iff_eq, beq_eq_false_iff_ne, ne_eq] at *
    unfold cls
    repeat' split
    all_goals omega

theorem small_any (c : Int) (w : World) (h0 : 0 ≤ c) (h1 : c ≤ 255) :
    Calls Tryd.prog 46 #[.int .u8 c] w fun e w' => e = .returned (.bool (smallB c)) ∧ w = w' := by
  go_enter Tryd.func46, Tryd.ntmps46
  go_wp2
  all_goals
    go_ret
    refine ⟨ret_bool ?_, rfl⟩
    simp [smallB] <;> omega
theorem capital_any (c : Int) (w : World) (h0 : 0 ≤ c) (h1 : c ≤ 255) :
    Calls Tryd.prog 49 #[.int .u8 c] w fun e w' => e = .returned (.bool (capB c)) ∧ w = w' := by
  go_enter Tryd.func49, Tryd.ntmps49
  go_wp2
  all_goals
    go_ret
    refine ⟨ret_bool ?_, rfl⟩
    simp [capB] <;> omega
theorem digit_any (c : Int) (w : World) (h0 : 0 ≤ c) (h1 : c ≤ 255) :
    Calls Tryd.prog 63 #[.int .u8 c] w fun e w' => e = .returned (.bool (digB c)) ∧ w = w' := by
  go_enter Tryd.func63, Tryd.ntmps63
  go_wp2
  all_goals
    go_ret
    refine ⟨ret_bool ?_, rfl⟩
    simp [digB] <;> omega
theorem inner1_any (c : Int) (w : World) (h0 : 0 ≤ c) (h1 : c ≤ 255) :
    Calls Tryd.prog 52 #[.int .u8 c] w fun e w' => e = .returned (.bool (innB c)) ∧ w = w' := by
  go_enter Tryd.func52, Tryd.ntmps52
  go_wp2_with (first | (go_at_call 46; refine (small_any _ _ (by assumption) (by assumption)).mono ?_; rintro e w' ⟨rfl, rfl⟩) | (go_at_call 49; refine (capital_any _ _ (by assumption) (by assumption)).mono ?_; rintro e w' ⟨rfl, rfl⟩) | (go_at_call 63; refine (digit_any _ _ (by assumption) (by assumption)).mono ?_; rintro e w' ⟨rfl, rfl⟩))
  all_goals
    go_ret
    refine ⟨ret_bool ?_, rfl⟩
    simp_all [innB]

/-- What a string's bytes read as. -/
def bs (s : ByteArray) : List UInt8 := s.data.toList
theorem bs_length (s : ByteArray) : (bs s).length = s.size := by simp [bs]
theorem take_snoc (s : ByteArray) (k : Nat) (h : k < s.size) : (bs s).take (k + 1) = (bs s).take k ++ [s[k]] := by
  unfold bs
  rw [List.take_succ_eq_append_getElem (by simpa using h)]; rfl

def innsB (l : List UInt8) : Bool := l.all fun b => innB b.toNat
theorem innsB_take (s : ByteArray) (k : Nat) (h : k < s.size) : innsB ((bs s).take (k + 1)) = (innsB ((bs s).take k) && innB s[k].toNat) := by
  rw [take_snoc s k h]; simp [innsB]
theorem innsB_false (s : ByteArray) (k : Nat) (h : k < s.size) (hf : innB s[k].toNat = false) : innsB (bs s) = false := by
  unfold innsB
  rw [List.all_eq_false]
  exact ⟨s[k], by simp [bs, ByteArray.getElem_eq_getElem_data], by simp [hf]⟩
theorem ub (c : UInt8) : 0 ≤ (c.toNat : Int) ∧ (c.toNat : Int) ≤ 255 := ⟨by omega, by have := c.toNat_lt; omega⟩

theorem inner_any (s : ByteArray) (w : World) (hs : s.size ≤ 1000) :
    Calls Tryd.prog 50 #[.string s] w fun e w' => e = .returned (.bool (innsB (bs s))) ∧ w = w' := by
  go_enter Tryd.func50, Tryd.ntmps50
  go_wp2
  go_loop [3] (fun i => ∃ k : Nat, k ≤ s.size ∧ i = .int .i64 k ∧ Hid (innsB ((bs s).take k) = true)) (fun i => s.size - (intOf i).toNat)
  case atStart => exact ⟨0, Nat.zero_le _, rfl, rfl⟩
  case round =>
    obtain ⟨k, hk, rfl, hin⟩ := hrel
    by_cases hlt : k < s.size
    · obtain ⟨u0, u1⟩ := ub s[k]
      go_wp2_with (go_at_call 52; refine (inner1_any _ _ (by assumption) (by assumption)).mono ?_; rintro e w' ⟨rfl, rfl⟩)
      · go_ret
        rename_i hf
        exact ⟨ret_bool (innsB_false s k hlt (by simpa using hf)).symm, rfl⟩
      · rename_i hf
        have hf' : innB s[k].toNat = true := by simpa using hf
        have hnext : Hid (innsB ((bs s).take (k + 1)) = true) := by show _ = _; rw [innsB_take s k hlt, hin.out, hf']; rfl
        go_round
        case rel => exact ⟨k + 1, by omega, by go_num, hnext⟩
        case measure => simp [intOf]; omega
    · go_wp2
      go_ret
      have hin' := hin.out
      rw [List.take_of_length_le (by rw [bs_length]; omega)] at hin'
      exact ⟨ret_bool hin'.symm, rfl⟩
end Go.Proofs.YtbjjimfdbbhjgaaDoor
