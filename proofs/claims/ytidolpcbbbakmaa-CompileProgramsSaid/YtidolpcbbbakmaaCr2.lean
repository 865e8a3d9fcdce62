/- Plain and textual of the reference. -/
import Derived.Test.YtidolpcbbbakmaaCr1
namespace Go.Proofs.Ytidolpcbbbakmaa
open Go Go.RowKit


theorem vis_eq (b : UInt8) : visB b = (((b.toNat : Int) == 10) || showB (b.toNat : Int)) := by
  rw [show ((b.toNat : Int) == 10) = (b == 10) from u8_of b 10 (by decide)]
  unfold visB showB; congr 2 <;> (apply decide_eq_decide.2; omega)
theorem vis_next (s : ByteArray) (k : Nat) (h : k < s.size) (ha : (s.data.toList.take k).all visB = true) (hv : visB s[k] = true) : (s.data.toList.take (k + 1)).all visB = true := by
  rw [take_next s k h, List.all_append, ha]; simp [hv]
def allVis (s : ByteArray) : Bool := s.data.toList.all visB
theorem vis_hit (s : ByteArray) (k : Nat) (h : k < s.size) (hv : visB s[k] = false) : allVis s = false := by
  unfold allVis; rw [List.all_eq_false]
  exact ⟨s[k], by simp [ByteArray.getElem_eq_getElem_data], by simp [hv]⟩
set_option maxRecDepth 100000 in
theorem plain_any (s : ByteArray) (w : World) (hs : s.size ≤ 16384) : Calls Try.prog 51 #[.string s] w fun e w' => e = .returned (.bool (allVis s)) ∧ w = w' := by
  go_enter Try.func51, Try.ntmps51
  go_wp2_with fail
  go_loop [3] (fun i => ∃ k : Nat, k ≤ s.size ∧ i = .int .i64 k ∧ Hid ((s.data.toList.take k).all visB = true)) (fun i => s.size - (intOf i).toNat)
  case atStart => exact ⟨0, Nat.zero_le _, rfl, rfl⟩
  case round =>
    obtain ⟨k, hk, rfl, hall⟩ := hrel
    by_cases hlt : k < s.size
    · obtain ⟨u0, u1⟩ := ub s[k]
      have hv := vis_eq s[k]
      have Hn := Lib.hid (vis_next s k hlt hall.out)
      have Hh := Lib.hid (vis_hit s k hlt)
      by_cases h1 : (s[k].toNat : Int) < 32
      · have h1' : ((s[k].toNat : Int) < 32) = True := eq_true h1
        cases h10 : ((s[k].toNat : Int) == 10)
        · have hb : Hid (allVis s = false) := Hh.out (by rw [hv, h10]; unfold showB; rw [decide_eq_false (by omega)]; rfl)
          clear hv h1
          go_wp2_with fail
          go_ret
          exact ⟨by rw [hb.out]; rfl, rfl⟩
        · have hN : Hid ((s.data.toList.take (k + 1)).all visB = true) := Hn.out (by rw [hv, h10]; rfl)
          clear hv h1
          go_wp2_with fail
          go_round
          case rel => exact ⟨k + 1, by omega, by go_num, hN⟩
          case measure => simp [intOf]; omega
      · have h1' : ((s[k].toNat : Int) < 32) = False := eq_false h1
        by_cases h2 : 126 < (s[k].toNat : Int)
        · have h2' : (126 < (s[k].toNat : Int)) = True := eq_true h2
          cases h10 : ((s[k].toNat : Int) == 10)
          · have hb : Hid (allVis s = false) := Hh.out (by rw [hv, h10]; unfold showB; rw [decide_eq_false (show ¬ (s[k].toNat : Int) ≤ 126 by omega), Bool.and_false]; rfl)
            clear hv h1 h2
            go_wp2_with fail
            go_ret
            exact ⟨by rw [hb.out]; rfl, rfl⟩
          · exfalso; rw [beq_iff_eq] at h10; omega
        · have h2' : (126 < (s[k].toNat : Int)) = False := eq_false h2
          have hN : Hid ((s.data.toList.take (k + 1)).all visB = true) := Hn.out (by rw [hv]; unfold showB; rw [decide_eq_true (show 32 ≤ (s[k].toNat : Int) by omega), decide_eq_true (show (s[k].toNat : Int) ≤ 126 by omega)]; simp)
          clear hv h1 h2
          go_wp2_with fail
          go_round
          case rel => exact ⟨k + 1, by omega, by go_num, hN⟩
          case measure => simp [intOf]; omega
    · have ha : Hid (allVis s = true) := by
        show _ = _
        have := hall.out
        rw [List.take_of_length_le (by simp; omega)] at this
        exact this
      go_wp2_with fail
      go_ret
      exact ⟨by rw [ha.out]; rfl, rfl⟩
theorem textual_any (s : ByteArray) (w : World) : Calls Try.prog 26 #[.string s] w fun e w' => e = .returned (.bool (quotedB s)) ∧ w = w' := by
  by_cases hs : s.size ≤ 16384
  · have HP := Lib.hid (plain_any s w hs)
    have hq : Hid (quotedB s = allVis s) := by show _ = _; unfold quotedB; rw [decide_eq_true hs]; rfl
    go_enter Try.func26, Try.ntmps26
    go_wp2_with fail
    refine HP.out.mono ?_
    rintro e w' ⟨rfl, rfl⟩
    go_wp2_with fail
    go_ret
    exact ⟨by rw [hq.out]; rfl, rfl⟩
  · have hq : Hid (quotedB s = false) := by show _ = _; unfold quotedB; rw [decide_eq_false hs]; rfl
    go_enter Try.func26, Try.ntmps26
    go_wp2_with fail
    go_ret
    exact ⟨by rw [hq.out]; rfl, rfl⟩
end Go.Proofs.Ytidolpcbbbakmaa
