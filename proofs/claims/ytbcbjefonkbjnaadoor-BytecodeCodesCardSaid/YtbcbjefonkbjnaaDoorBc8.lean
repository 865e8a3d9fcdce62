/- sum. -/
import Derived.Test.YtbcbjefonkbjnaaDoorBc7
namespace Go.Proofs.YtbcbjefonkbjnaaDoor
open Go Go.RowKit

def sumK (l : List Int) : Nat → Int
  | 0 => 0
  | k + 1 => (sumK l k + ((k : Int) + 1) % 65521 * l.getD k 0) % 65521
def AreBytes (l : List Int) : Prop := ∀ x ∈ l, 0 ≤ x ∧ x < 256
theorem AreBytes.at {l : List Int} (h : AreBytes l) (k : Nat) (hk : k < l.length) : 0 ≤ l.getD k 0 ∧ l.getD k 0 < 256 := by
  have : l.getD k 0 = l[k] := by simp [List.getD, hk]
  rw [this]; exact h _ (List.getElem_mem hk)
theorem sumK_lt (l : List Int) : ∀ k, 0 ≤ sumK l k ∧ sumK l k < 65521
  | 0 => by simp [sumK]
  | k + 1 => by
    unfold sumK
    exact ⟨Int.emod_nonneg _ (by omega), Int.emod_lt_of_pos _ (by omega)⟩
theorem u8s_at (l : List Int) (k : Nat) (h : k < l.length) : (u8s l).getD k undef = .int .u8 (l.getD k 0) := by simp [u8s, List.getD, h]
theorem u8s_length (l : List Int) : (u8s l).length = l.length := by simp [u8s]
theorem mul_small (a b : Int) (h1 : 0 ≤ a) (h2 : a < 65521) (h3 : 0 ≤ b) (h4 : b < 256) : 0 ≤ a * b ∧ a * b ≤ 16773120 := by
  refine ⟨Int.mul_nonneg h1 h3, ?_⟩
  calc a * b ≤ 65520 * b := Int.mul_le_mul_of_nonneg_right (by omega) h3
    _ ≤ 16773120 := by omega
set_option maxHeartbeats 1000000 in
set_option maxRecDepth 100000 in
theorem sum_any (v : Value) (l : List Int) (w : World) (hl : l.length ≤ 100000000) (hb : AreBytes l) (h : IsRow w v l.length (u8s l)) :
    Calls Tryd.prog 43 #[v] w fun e w' => e = .returned (.int .i64 (sumK l l.length)) ∧ w = w' := by
  obtain ⟨a, c, rfl, hlc, hcell⟩ := h
  have Hcell := Lib.hid hcell
  clear hcell
  go_enter Tryd.func43, Tryd.ntmps43
  go_wp2_with fail
  go_loop [3, 8] (fun n i => ∃ k : Nat, k ≤ l.length ∧ i = .int .i64 k ∧ n = .int .i64 (sumK l k)) (fun _ i => l.length - (intOf i).toNat)
  case atStart => exact ⟨0, Nat.zero_le _, rfl, rfl⟩
  case round =>
    obtain ⟨k, hk, rfl, rfl⟩ := hrel
    by_cases hkl : k < l.length
    · obtain ⟨b, off, rfl, hlt, hc⟩ := Hcell.out (by omega)
      have hcx := hc k (by rw [u8s_length]; exact hkl)
      rw [u8s_at l k hkl] at hcx
      obtain ⟨x0, x1⟩ := hb.at k hkl
      obtain ⟨s0, s1⟩ := sumK_lt l k
      have hnx : Hid (sumK l (k + 1) = (sumK l k + ((k : Int) + 1) % 65521 * l.getD k 0) % 65521) := rfl
      generalize l.getD k 0 = x at *
      generalize hs : sumK l k = s at *
      obtain ⟨m0, m1⟩ := mul_small (((k : Int) + 1) % 65521) x (by omega) (by omega) x0 x1
      clear hc hs Hcell
      go_wp2_with fail
      go_round
      case rel => exact ⟨k + 1, by omega, by go_num, by rw [hnx.out]⟩
      case measure => simp [intOf]; omega
    · obtain rfl : k = l.length := by omega
      go_wp2_with fail
      go_ret
      exact ⟨rfl, rfl⟩
end Go.Proofs.YtbcbjefonkbjnaaDoor
