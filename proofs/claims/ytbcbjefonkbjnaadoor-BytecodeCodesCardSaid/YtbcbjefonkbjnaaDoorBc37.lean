/- Get of the reference. -/
import Derived.Test.YtbcbjefonkbjnaaDoorBc36
namespace Go.Proofs.YtbcbjefonkbjnaaDoor
open Go Go.RowKit

/-- What Get answers at a place of the bytes. -/
def getT (l : List Int) (a : Nat) : Int × Int :=
  match rawGet (l.drop a) with
  | none => (0, -1)
  | some (n, l') => if fitB n = true then (n, (l.length : Int) - l'.length) else (0, -1)
theorem getT_none (l : List Int) (a : Nat) (h : rawGet (l.drop a) = none) : getT l a = (0, -1) := by unfold getT; rw [h]
theorem getT_some (l : List Int) (a : Nat) (n : Int) (l' : List Int) (h : rawGet (l.drop a) = some (n, l')) : getT l a = if fitB n = true then (n, (l.length : Int) - l'.length) else (0, -1) := by unfold getT; rw [h]
theorem wrap64_ok (z : Int) (h0 : -9223372036854775808 ≤ z) (h1 : z ≤ 9223372036854775807) : wrap64 z = z := by unfold wrap64; omega
def GetOk (t : Int × Int) (w : World) (e : Ending) (w' : World) : Prop := e = .returned (.tuple #[.int .i64 t.1, .int .i64 t.2]) ∧ w = w'
set_option maxHeartbeats 2000000 in
set_option maxRecDepth 100000 in
theorem rget_any (v : Value) (l : List Int) (at_ : Nat) (w : World) (h : IsRow w v l.length (u8s l)) (hb : AreBytes l) (hl : l.length ≤ 1000000) (ha : at_ ≤ l.length) :
    Calls Tryd.prog 66 #[v, .int .i64 at_] w (GetOk (getT l at_) w) := by
  obtain ⟨a, c, rfl, hlc, hx⟩ := h
  have HX := Lib.hid hx
  clear hx
  go_enter Tryd.func66, Tryd.ntmps66
  go_wp2_with fail
  go_loop [6, 7] (fun zv i => ∃ (k : Nat) (z P : Int), k ≤ 8 ∧ at_ + k ≤ l.length ∧ i = .int .i64 k ∧ zv = .int .i64 z ∧ 0 ≤ z ∧ z < P ∧ Hid (P = 128 ^ k) ∧ Hid (getF (8 - k) z P (decide (k = 0)) (l.drop (at_ + k)) = rawGet (l.drop at_))) (fun _ i => 8 - (intOf i).toNat)
  case atStart => exact ⟨0, 0, 1, by decide, ha, rfl, rfl, by decide, by decide, rfl, rfl⟩
  case round =>
    obtain ⟨k, z, P, hk8, hak, rfl, rfl, hz0, hzP, HP, HG⟩ := hrel
    by_cases hk7 : k = 8
    · have hN : Hid (getT l at_ = (0, -1)) := getT_none _ _ (by rw [← HG.out, hk7]; rfl)
      subst hk7
      clear HG HP
      go_wp2_with fail
      go_ret2
      exact ⟨by rw [hN.out]; rfl, rfl⟩
    · have hk7' : k ≤ 7 := by omega
      have hk7i : (k : Int) < 8 := by omega
      by_cases hkl : at_ + k < l.length
      · obtain ⟨b, off, rfl, hlt, hc⟩ := HX.out (by omega)
        have d0 := hc (at_ + k) (by rw [u8s_length]; exact hkl)
        rw [u8s_at l _ hkl] at d0
        obtain ⟨x0, x1⟩ := hb.at (at_ + k) hkl
        have hG := HG.out
        rw [drop_cons l (at_ + k) hkl, show 8 - k = (8 - (k + 1)) + 1 by omega] at hG
        have hki : (at_ : Int) + (k : Int) < (l.length : Int) := by omega
        have Hc := Lib.hid hc
        clear hc
        generalize l.getD (at_ + k) 0 = x at *
        have hpw : Hid ((2 : Int) ^ (7 * k) = P) := by
          show _ = _
          rw [HP.out, show (128 : Int) = 2 ^ 7 from rfl, ← Int.pow_mul]
        have hP : 1 ≤ P ∧ P ≤ 562949953421312 := by
          have := HP.out
          rcases (by omega : k = 0 ∨ k = 1 ∨ k = 2 ∨ k = 3 ∨ k = 4 ∨ k = 5 ∨ k = 6 ∨ k = 7) with rfl | rfl | rfl | rfl | rfl | rfl | rfl | rfl <;> (rw [this]; decide)
        have hpow := hpw.out
        obtain ⟨m0, m1⟩ := mul_127 x P hP.1
        have hw1 : wrap64 (x % 128 * P) = x % 128 * P := wrap64_ok _ (by omega) (by omega)
        have hw2 : wrap64 (z + x % 128 * P) = z + x % 128 * P := wrap64_ok _ (by omega) (by omega)
        by_cases h128 : 128 ≤ x
        · rw [getF_more _ _ _ _ _ _ h128] at hG
          have hN : Hid (getF (8 - (k + 1)) (z + x % 128 * P) (P * 128) (decide (k + 1 = 0)) (l.drop (at_ + (k + 1))) = rawGet (l.drop at_)) := by show _ = _; rw [← hG, decide_eq_false (by omega)]; rfl
          have hPn : Hid (P * 128 = 128 ^ (k + 1)) := by show _ = _; rw [HP.out, Int.pow_succ]
          clear hG HG HP hpw
          go_wp2_with fail
          go_round
          case rel => exact ⟨k + 1, z + x % 128 * P, P * 128, by omega, by omega, by go_num, rfl, by omega, by omega, hPn, hN⟩
          case measure => simp [intOf]; omega
        · by_cases h0 : x = 0 ∧ decide (k = 0) = false
          · have hN : Hid (getT l at_ = (0, -1)) := getT_none _ _ (by rw [← hG, h0.1, h0.2, getF_zero])
            have hk0 : k ≠ 0 := by have := h0.2; simpa using this
            obtain rfl := h0.1
            have hkb : ((0 : Int) < (k : Int)) = True := eq_true (by omega)
            have hkn : (0 < k) = True := eq_true (by omega)
            clear hG HG h0 HP hpw
            generalize hzz : z + 0 % 128 * P = zz at *
            by_cases hodd : zz % 2 = 1
            · go_wp2_with fail
              go_ret2
              exact ⟨by rw [hN.out]; rfl, rfl⟩
            · have hodd' : (zz % 2 == 1) = false := beq_eq_false_iff_ne.2 hodd
              go_wp2_with fail
              go_ret2
              exact ⟨by rw [hN.out]; rfl, rfl⟩
          · rw [getF_last _ _ _ _ _ _ h128 h0] at hG
            have hraw := Lib.hid hG.symm
            have hm2 : z + x % 128 * P ≤ 72057594037927936 := by omega
            have hm3 : 0 ≤ z + x % 128 * P := by omega
            have hxk : x = 0 → k = 0 := fun h => by
              have : ¬ (decide (k = 0) = false) := fun e => h0 ⟨h, e⟩
              simpa using this
            clear hG HG h0 HP hpw
            generalize hzz : z + x % 128 * P = zz at *
            by_cases hk0 : k = 0
            · have hkb : ((0 : Int) < (k : Int)) = False := eq_false (by omega)
              have hkn : (0 < k) = False := eq_false (by omega)
              clear hk0 hxk
              by_cases hodd : zz % 2 = 1
              · have hu : -((zz + 1) / 2) = unzig zz := by unfold unzig; rw [if_pos hodd]
                have hub := unzig_bound zz hm3 hm2
                generalize unzig zz = n at *
                by_cases hf1 : 4503599627370496 < n
                · have hT : Hid (getT l at_ = (0, -1)) := by show _ = _; rw [getT_some _ _ _ _ hraw.out, if_neg (by simp [fitB, inB]; omega)]
                  have hf1' : (4503599627370496 < n) = True := eq_true hf1
                  clear hf1
                  go_wp2_with fail
                  go_ret2
                  exact ⟨by rw [hT.out]; rfl, rfl⟩
                · have hf1' : (4503599627370496 < n) = False := eq_false hf1
                  by_cases hf2 : n < -4503599627370496
                  · have hT : Hid (getT l at_ = (0, -1)) := by show _ = _; rw [getT_some _ _ _ _ hraw.out, if_neg (by simp [fitB, inB]; omega)]
                    have hf2' : (n < -4503599627370496) = True := eq_true hf2
                    clear hf1 hf2
                    go_wp2_with fail
                    go_ret2
                    exact ⟨by rw [hT.out]; rfl, rfl⟩
                  · have hT : Hid (getT l at_ = (n, (at_ : Int) + k + 1)) := by show _ = _; rw [getT_some _ _ _ _ hraw.out, if_pos (by simp [fitB, inB]; omega), List.length_drop]; congr 1; omega
                    have hf2' : (n < -4503599627370496) = False := eq_false hf2
                    clear hf1 hf2
                    go_wp2_with fail
                    go_ret2
                    exact ⟨by rw [hT.out]; rfl, rfl⟩
              · have hu := unzig_even zz hodd
                have hub := unzig_bound zz hm3 hm2
                have hodd' : (zz % 2 == 1) = false := beq_eq_false_iff_ne.2 hodd
                generalize unzig zz = n at *
                by_cases hf1 : 4503599627370496 < n
                · have hT : Hid (getT l at_ = (0, -1)) := by show _ = _; rw [getT_some _ _ _ _ hraw.out, if_neg (by simp [fitB, inB]; omega)]
                  have hf1' : (4503599627370496 < n) = True := eq_true hf1
                  clear hf1
                  go_wp2_with fail
                  go_ret2
                  exact ⟨by rw [hT.out]; rfl, rfl⟩
                · have hf1' : (4503599627370496 < n) = False := eq_false hf1
                  by_cases hf2 : n < -4503599627370496
                  · have hT : Hid (getT l at_ = (0, -1)) := by show _ = _; rw [getT_some _ _ _ _ hraw.out, if_neg (by simp [fitB, inB]; omega)]
                    have hf2' : (n < -4503599627370496) = True := eq_true hf2
                    clear hf1 hf2
                    go_wp2_with fail
                    go_ret2
                    exact ⟨by rw [hT.out]; rfl, rfl⟩
                  · have hT : Hid (getT l at_ = (n, (at_ : Int) + k + 1)) := by show _ = _; rw [getT_some _ _ _ _ hraw.out, if_pos (by simp [fitB, inB]; omega), List.length_drop]; congr 1; omega
                    have hf2' : (n < -4503599627370496) = False := eq_false hf2
                    clear hf1 hf2
                    go_wp2_with fail
                    go_ret2
                    exact ⟨by rw [hT.out]; rfl, rfl⟩
            · have hkb : ((0 : Int) < (k : Int)) = True := eq_true (by omega)
              have hkn : (0 < k) = True := eq_true (by omega)
              have hxb : (x == 0) = false := beq_eq_false_iff_ne.2 fun e => hk0 (hxk e)
              clear hk0 hxk
              by_cases hodd : zz % 2 = 1
              · have hu : -((zz + 1) / 2) = unzig zz := by unfold unzig; rw [if_pos hodd]
                have hub := unzig_bound zz hm3 hm2
                generalize unzig zz = n at *
                by_cases hf1 : 4503599627370496 < n
                · have hT : Hid (getT l at_ = (0, -1)) := by show _ = _; rw [getT_some _ _ _ _ hraw.out, if_neg (by simp [fitB, inB]; omega)]
                  have hf1' : (4503599627370496 < n) = True := eq_true hf1
                  clear hf1
                  go_wp2_with fail
                  go_ret2
                  exact ⟨by rw [hT.out]; rfl, rfl⟩
                · have hf1' : (4503599627370496 < n) = False := eq_false hf1
                  by_cases hf2 : n < -4503599627370496
                  · have hT : Hid (getT l at_ = (0, -1)) := by show _ = _; rw [getT_some _ _ _ _ hraw.out, if_neg (by simp [fitB, inB]; omega)]
                    have hf2' : (n < -4503599627370496) = True := eq_true hf2
                    clear hf1 hf2
                    go_wp2_with fail
                    go_ret2
                    exact ⟨by rw [hT.out]; rfl, rfl⟩
                  · have hT : Hid (getT l at_ = (n, (at_ : Int) + k + 1)) := by show _ = _; rw [getT_some _ _ _ _ hraw.out, if_pos (by simp [fitB, inB]; omega), List.length_drop]; congr 1; omega
                    have hf2' : (n < -4503599627370496) = False := eq_false hf2
                    clear hf1 hf2
                    go_wp2_with fail
                    go_ret2
                    exact ⟨by rw [hT.out]; rfl, rfl⟩
              · have hu := unzig_even zz hodd
                have hub := unzig_bound zz hm3 hm2
                have hodd' : (zz % 2 == 1) = false := beq_eq_false_iff_ne.2 hodd
                generalize unzig zz = n at *
                by_cases hf1 : 4503599627370496 < n
                · have hT : Hid (getT l at_ = (0, -1)) := by show _ = _; rw [getT_some _ _ _ _ hraw.out, if_neg (by simp [fitB, inB]; omega)]
                  have hf1' : (4503599627370496 < n) = True := eq_true hf1
                  clear hf1
                  go_wp2_with fail
                  go_ret2
                  exact ⟨by rw [hT.out]; rfl, rfl⟩
                · have hf1' : (4503599627370496 < n) = False := eq_false hf1
                  by_cases hf2 : n < -4503599627370496
                  · have hT : Hid (getT l at_ = (0, -1)) := by show _ = _; rw [getT_some _ _ _ _ hraw.out, if_neg (by simp [fitB, inB]; omega)]
                    have hf2' : (n < -4503599627370496) = True := eq_true hf2
                    clear hf1 hf2
                    go_wp2_with fail
                    go_ret2
                    exact ⟨by rw [hT.out]; rfl, rfl⟩
                  · have hT : Hid (getT l at_ = (n, (at_ : Int) + k + 1)) := by show _ = _; rw [getT_some _ _ _ _ hraw.out, if_pos (by simp [fitB, inB]; omega), List.length_drop]; congr 1; omega
                    have hf2' : (n < -4503599627370496) = False := eq_false hf2
                    clear hf1 hf2
                    go_wp2_with fail
                    go_ret2
                    exact ⟨by rw [hT.out]; rfl, rfl⟩
      · have hN : Hid (getT l at_ = (0, -1)) := getT_none _ _ (by rw [← HG.out, List.drop_of_length_le (by omega), getF_end])
        have hki : (l.length : Int) ≤ (at_ : Int) + (k : Int) := by omega
        clear HG HP
        go_wp2_with fail
        go_ret2
        exact ⟨by rw [hN.out]; rfl, rfl⟩
end Go.Proofs.YtbcbjefonkbjnaaDoor
