/- The reference's Number. -/
import Derived.Test.YtbjjimfdbbhjgaaDoorNum
namespace Go.Proofs.YtbjjimfdbbhjgaaDoor
open Go Go.RowKit

theorem numF_snoc (l : List UInt8) (c : UInt8) : numF 0 (l ++ [c]) = numF 0 l * 10 + (c.toNat - 48) := by simp [numF]
theorem numF_take (s : ByteArray) (k : Nat) (h : k < s.size) : numF 0 ((bs s).take (k + 1)) = numF 0 ((bs s).take k) * 10 + (s[k].toNat - 48) := by
  rw [take_snoc s k h, numF_snoc]
def SatSlot (s : ByteArray) (k : Nat) (v : Value) : Prop := ∃ m : Nat, v = .int .i64 m ∧ m ≤ 4503599627370497 ∧ m = min 4503599627370497 (numF 0 ((bs s).take k))
theorem sat_next (a m d : Nat) (hm : m = min 4503599627370497 a) : min 4503599627370497 (a * 10 + d) = min 4503599627370497 (10 * m + d) := by omega

set_option maxHeartbeats 1000000 in
theorem rNumber_any (s : ByteArray) (w : World) (hs : s.size ≤ 1000) :
    Calls Tryd.prog 38 #[.string s] w fun e w' => e = .returned (numV (bs s)) ∧ w = w' := by
  by_cases h0 : s.size = 0
  · have hv : Hid (numV (bs s) = .tuple #[.int .i64 0, .int .i64 3]) := by
      show _ = _
      have : bs s = [] := List.length_eq_zero_iff.1 (by rw [bs_length]; exact h0)
      unfold numV numT; rw [this]; rfl
    go_enter Tryd.func38, Tryd.ntmps38
    go_wp2_with fail
    go_ret2
    exact ⟨by rw [hv.out]; rfl, rfl⟩
  · have hp : 0 < s.size := by omega
    have hh := bs_head s hp
    have hne : bs s ≠ [] := by intro e; have := bs_length s; rw [e] at this; simp at this; omega
    have hq0 : ((s.size : Int) == 0) = false := by rw [beq_eq_false_iff_ne]; omega
    by_cases hz : 1 < s.size ∧ (s[0].toNat : Int) = 48
    · obtain ⟨hz1, hz2⟩ := hz
      have hz3 : ((s[0].toNat : Int) == 48) = true := by rw [hz2]; rfl
      have hv : Hid (numV (bs s) = .tuple #[.int .i64 0, .int .i64 3]) := by
        show _ = _
        unfold numV numT
        rw [if_pos (.inr ⟨by rw [bs_length]; exact hz1, by rw [hh]; omega⟩)]
      clear hz2 hh
      go_enter Tryd.func38, Tryd.ntmps38
      go_wp2_with fail
      go_ret2
      exact ⟨by rw [hv.out]; rfl, rfl⟩
    · have hT : Hid (numT (bs s) = if digsB (bs s) = false then (0, 3) else if 4503599627370496 < numF 0 (bs s) then (0, 6) else ((numF 0 (bs s) : Int), 0)) := by
        show _ = _
        unfold numT
        rw [if_neg]
        rintro (h | ⟨h1, h2⟩)
        · exact hne h
        · exact hz ⟨by rw [bs_length] at h1; exact h1, by rw [hh] at h2; omega⟩
      have hdec : (¬ 1 < s.size) ∨ (1 < s.size ∧ ((s[0].toNat : Int) == 48) = false) := by
        by_cases h1 : s.size = 1
        · exact .inl (by omega)
        · right; refine ⟨by omega, ?_⟩
          rw [beq_eq_false_iff_ne]; intro e; exact hz ⟨by omega, e⟩
      clear hz hh hne
      rcases hdec with h1a | ⟨h1a, h1b⟩
      all_goals
        go_enter Tryd.func38, Tryd.ntmps38
        go_wp2_with fail
        go_loop [4, 5] (fun v i => ∃ k : Nat, k ≤ s.size ∧ i = .int .i64 k ∧ Hid (digsB ((bs s).take k) = true) ∧ SatSlot s k v) (fun _ i => s.size - (intOf i).toNat)
        case atStart => exact ⟨0, Nat.zero_le _, rfl, rfl, 0, rfl, by omega, rfl⟩
        case round =>
          obtain ⟨j, hj, rfl, hin, m, rfl, hm, hmv⟩ := hrel
          have Hmv := Lib.hid hmv
          clear hmv
          by_cases hlt : j < s.size
          · have Hnx := Lib.hid (digsB_take s j hlt)
            have Hfx := Lib.hid (digsB_no s j hlt)
            have Hnf := Lib.hid (numF_take s j hlt)
            have ⟨v0, v1⟩ := ub s[j]
            cases hcx : digB s[j].toNat with
            | false =>
              have Hcx := Lib.hid hcx
              have hv : Hid (numV (bs s) = .tuple #[.int .i64 0, .int .i64 3]) := by
                show _ = _
                unfold numV; rw [hT.out, if_pos (Hfx.out hcx)]
              clear hcx
              go_wp2_with fail
              refine (digit_any _ _ (by assumption) (by assumption)).mono ?_
              rintro e w' ⟨rfl, rfl⟩
              rw [Hcx.out]
              go_wp2_with fail
              go_ret2
              exact ⟨by rw [hv.out]; rfl, rfl⟩
            | true =>
              have Hcx := Lib.hid hcx
              have hd := (digB_iff s[j]).1 hcx
              have d0 : (48 : Int) ≤ (s[j].toNat : Int) := by omega
              have d1 : (s[j].toNat : Int) ≤ 57 := by omega
              have Hs := Lib.hid (sat_next _ m (s[j].toNat - 48) Hmv.out)
              clear hcx hd
              go_wp2_with fail
              refine (digit_any _ _ (by assumption) (by assumption)).mono ?_
              rintro e w' ⟨rfl, rfl⟩
              rw [Hcx.out]
              go_wp2_with fail
              go_round
              case rel =>
                refine ⟨j + 1, by omega, by go_num, by show _ = _; rw [Hnx.out, hin.out, Hcx.out]; rfl, min 4503599627370497 (10 * m + (s[j].toNat - 48)), ?_, Nat.min_le_left _ _, ?_⟩
                · congr 1; omega
                · rw [Hnf.out, Hs.out]
              case measure => simp [intOf]; omega
          · have hin' := hin.out
            have hmv := Hmv.out
            rw [List.take_of_length_le (by rw [bs_length]; omega)] at hin' hmv
            have hT2 := hT.out
            rw [if_neg (by rw [hin']; simp)] at hT2
            have HT2 := Lib.hid hT2
            have Hm2 := Lib.hid hmv
            clear hin' hT2 hT hmv
            by_cases hbig : 4503599627370496 < m
            · have hv : Hid (numV (bs s) = .tuple #[.int .i64 0, .int .i64 6]) := by
                show _ = _
                unfold numV; rw [HT2.out, if_pos (by have := Hm2.out; omega)]
              go_wp2_with fail
              go_ret2
              exact ⟨by rw [hv.out]; rfl, rfl⟩
            · have hv : Hid (numV (bs s) = .tuple #[.int .i64 m, .int .i64 0]) := by
                show _ = _
                unfold numV; rw [HT2.out, if_neg (by have := Hm2.out; omega)]
                have : numF 0 (bs s) = m := by have := Hm2.out; omega
                rw [this]
              go_wp2_with fail
              go_ret2
              exact ⟨by rw [hv.out]; rfl, rfl⟩

theorem identNumbers_walk (s : ByteArray) (w : World) (hE : EnvN w) :
    Calls Tryd.prog 9 #[.string s] w fun e w' => e = .returned (.bool true) ∧ Below w.heap.size w w' := by
  by_cases h1 : s.size ≤ 1000
  · obtain ⟨n, f, hv⟩ : ∃ n f, numV (bs s) = .tuple #[.int .i64 n, .int .i64 f] := ⟨_, _, rfl⟩
    have Hv := Lib.hid hv
    clear hv
    go_enter Tryd.func9, Tryd.ntmps9
    go_wp2_with fail
    refine (awake_any _ hE.env).mono ?_
    rintro e w1 ⟨rfl, hb1⟩
    have hE1 := hE.below hb1
    go_wp2_with fail
    refine (number_any _ _ hE1 h1).mono ?_
    rintro e w2 ⟨rfl, hb2⟩
    rw [Hv.out]
    have hB2 : Below w.heap.size w w2 := hb1.trans (hb2.mono hb1.size)
    go_wp2_with fail
    refine (rNumber_any _ _ h1).mono ?_
    rintro e w3 ⟨rfl, rfl⟩
    rw [Hv.out]
    go_wp2_with fail
    go_ret
    exact ⟨by simp, hB2⟩
  · go_enter Tryd.func9, Tryd.ntmps9
    go_wp2_with fail
    refine (awake_any _ hE.env).mono ?_
    rintro e w1 ⟨rfl, hb1⟩
    have hE1 := hE.below hb1
    go_wp2_with fail
    refine (awake_any _ hE1.env).mono ?_
    rintro e w2 ⟨rfl, hb2⟩
    have hB2 : Below w.heap.size w w2 := hb1.trans (hb2.mono hb1.size)
    go_wp2_with fail
    go_ret
    exact ⟨rfl, hB2⟩
end Go.Proofs.YtbjjimfdbbhjgaaDoor
