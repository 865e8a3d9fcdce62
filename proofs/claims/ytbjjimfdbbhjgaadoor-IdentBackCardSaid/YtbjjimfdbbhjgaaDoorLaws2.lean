/- IdentLabels: its walk. -/
import Derived.Test.YtbjjimfdbbhjgaaDoorLaws1
namespace Go.Proofs.YtbjjimfdbbhjgaaDoor
open Go Go.RowKit

theorem splV_zero (s : ByteArray) (h : splK s = 0) : splV s = .tuple #[.int .i64 0, st [], .int .i64 3] := by unfold splV; rw [h]; rfl
theorem rsplV_zero (s : ByteArray) (h : splK s = 0) : rsplV s = .tuple #[.int .i64 0, st []] := by unfold rsplV; rw [h]; rfl
theorem splV_some (s : ByteArray) (h : splK s ≠ 0) : splV s = .tuple #[.int .i64 (splK s), st ((bs s).drop (preB (splK s)).length), .int .i64 0] := by unfold splV; rw [if_neg h, if_neg h]
theorem rsplV_some (s : ByteArray) (h : splK s ≠ 0) : rsplV s = .tuple #[.int .i64 (splK s), st ((bs s).drop (preB (splK s)).length)] := by unfold rsplV; rw [if_neg h]

theorem labels_A0 (k : Int) (s : ByteArray) (w : World) (hE : Env w) (h1 : s.size ≤ 1000) (hk : k < 1 ∨ 5 < k) (El : Hid (labS k s = [])) (Ee : Hid (labE k s = 2)) (Ev : Hid (splV s = .tuple #[.int .i64 0, st [], .int .i64 3])) (Er : Hid (rsplV s = .tuple #[.int .i64 0, st []])) :
    Calls Tryd.prog 3 #[.int .i64 k, .string s] w fun e w' => e = .returned (.bool true) ∧ Below w.heap.size w w' := by
  rcases hk with hk | hk
  all_goals
    go_enter Tryd.func3, Tryd.ntmps3
    go_wp2_with fail
    refine (awake_any _ hE).mono ?_
    rintro e w1 ⟨rfl, hb1⟩
    have hE1 := hE.below hb1
    go_wp2_with fail
    refine (label_any _ _ _ hE1 h1).mono ?_
    rintro e w2 ⟨rfl, hb2⟩
    rw [El.out, Ee.out]
    unfold st
    have hB2 : Below w.heap.size w w2 := hb1.trans (hb2.mono hb1.size)
    have hE2 := hE1.below hb2
    clear hb1 hb2
    go_wp2_with fail
    refine (split_any _ _ hE2 h1).mono ?_
    rintro e w3 ⟨rfl, hb3⟩
    rw [Ev.out]
    unfold st
    have hB3 : Below w.heap.size w w3 := hB2.trans (hb3.mono hB2.size)
    clear hB2 hb3
    go_wp2_with fail
    refine (rsplit_any _ _ h1).mono ?_
    rintro e w6 ⟨rfl, hb6⟩
    rw [Er.out]
    unfold st
    have hB6 : Below w.heap.size w w6 := hB3.trans (hb6.mono hB3.size)
    go_wp2_with fail
    go_ret
    exact ⟨by simp, hB6⟩
theorem labels_B0 (k : Int) (s : ByteArray) (w : World) (hE : Env w) (h1 : s.size ≤ 1000) (hk1 : 1 ≤ k) (hk5 : k ≤ 5) (Ef : Hid (fitB k s = false)) (El : Hid (labS k s = [])) (Ee : Hid (labE k s = 3)) (Ev : Hid (splV s = .tuple #[.int .i64 0, st [], .int .i64 3])) (Er : Hid (rsplV s = .tuple #[.int .i64 0, st []])) :
    Calls Tryd.prog 3 #[.int .i64 k, .string s] w fun e w' => e = .returned (.bool true) ∧ Below w.heap.size w w' := by
  go_enter Tryd.func3, Tryd.ntmps3
  go_wp2_with fail
  refine (awake_any _ hE).mono ?_
  rintro e w1 ⟨rfl, hb1⟩
  have hE1 := hE.below hb1
  go_wp2_with fail
  refine (label_any _ _ _ hE1 h1).mono ?_
  rintro e w2 ⟨rfl, hb2⟩
  rw [El.out, Ee.out]
  unfold st
  have hB2 : Below w.heap.size w w2 := hb1.trans (hb2.mono hb1.size)
  have hE2 := hE1.below hb2
  clear hb1 hb2
  go_wp2_with fail
  refine (split_any _ _ hE2 h1).mono ?_
  rintro e w3 ⟨rfl, hb3⟩
  rw [Ev.out]
  unfold st
  have hB3 : Below w.heap.size w w3 := hB2.trans (hb3.mono hB2.size)
  clear hB2 hb3
  go_wp2_with fail
  refine (rFits_any _ _ _ h1).mono ?_
  rintro e w4 ⟨rfl, hb4⟩
  rw [Ef.out]
  have hB4 : Below w.heap.size w w4 := hB3.trans (hb4.mono hB3.size)
  clear hB3 hb4
  go_wp2_with fail
  refine (rsplit_any _ _ h1).mono ?_
  rintro e w6 ⟨rfl, hb6⟩
  rw [Er.out]
  unfold st
  have hB6 : Below w.heap.size w w6 := hB4.trans (hb6.mono hB4.size)
  go_wp2_with fail
  go_ret
  exact ⟨by simp, hB6⟩
theorem labels_C0 (n : Nat) (s : ByteArray) (w : World) (hE : Env w) (h1 : s.size ≤ 1000) (hk1 : 1 ≤ n) (hk5 : n ≤ 5) (l : List UInt8) (Ef : Hid (fitB n s = true)) (El : Hid (labS n s = l)) (Ee : Hid (labE n s = 0)) (Ez : Hid (preB n ++ bs s = l)) (Ev : Hid (splV s = .tuple #[.int .i64 0, st [], .int .i64 3])) (Er : Hid (rsplV s = .tuple #[.int .i64 0, st []])) :
    Calls Tryd.prog 3 #[.int .i64 n, .string s] w fun e w' => e = .returned (.bool true) ∧ Below w.heap.size w w' := by
  go_enter Tryd.func3, Tryd.ntmps3
  go_wp2_with fail
  refine (awake_any _ hE).mono ?_
  rintro e w1 ⟨rfl, hb1⟩
  have hE1 := hE.below hb1
  go_wp2_with fail
  refine (label_any _ _ _ hE1 h1).mono ?_
  rintro e w2 ⟨rfl, hb2⟩
  rw [El.out, Ee.out]
  unfold st
  have hB2 : Below w.heap.size w w2 := hb1.trans (hb2.mono hb1.size)
  have hE2 := hE1.below hb2
  clear hb1 hb2
  go_wp2_with fail
  refine (split_any _ _ hE2 h1).mono ?_
  rintro e w3 ⟨rfl, hb3⟩
  rw [Ev.out]
  unfold st
  have hB3 : Below w.heap.size w w3 := hB2.trans (hb3.mono hB2.size)
  clear hB2 hb3
  go_wp2_with fail
  refine (rFits_any _ _ _ h1).mono ?_
  rintro e w4 ⟨rfl, hb4⟩
  rw [Ef.out]
  have hB4 : Below w.heap.size w w4 := hB3.trans (hb4.mono hB3.size)
  clear hB3 hb4
  go_wp2_with fail
  refine (rLabel_any n _ _ hk1 hk5 h1).mono ?_
  rintro e w5 ⟨rfl, hb5⟩
  rw [Ez.out]
  unfold st
  have hB5 : Below w.heap.size w w5 := hB4.trans (hb5.mono hB4.size)
  clear hB4 hb5
  go_wp2_with fail
  refine (rsplit_any _ _ h1).mono ?_
  rintro e w6 ⟨rfl, hb6⟩
  rw [Er.out]
  unfold st
  have hB6 : Below w.heap.size w w6 := hB5.trans (hb6.mono hB5.size)
  go_wp2_with fail
  go_ret
  exact ⟨by simp, hB6⟩
theorem labels_A1 (k : Int) (s : ByteArray) (w : World) (hE : Env w) (h1 : s.size ≤ 1000) (hk : k < 1 ∨ 5 < k) (El : Hid (labS k s = [])) (Ee : Hid (labE k s = 2)) (m : Int) (r : List UInt8) (hm : (m == 0) = false) (Ev : Hid (splV s = .tuple #[.int .i64 m, st r, .int .i64 0])) (Er : Hid (rsplV s = .tuple #[.int .i64 m, st r])) :
    Calls Tryd.prog 3 #[.int .i64 k, .string s] w fun e w' => e = .returned (.bool true) ∧ Below w.heap.size w w' := by
  rcases hk with hk | hk
  all_goals
    go_enter Tryd.func3, Tryd.ntmps3
    go_wp2_with fail
    refine (awake_any _ hE).mono ?_
    rintro e w1 ⟨rfl, hb1⟩
    have hE1 := hE.below hb1
    go_wp2_with fail
    refine (label_any _ _ _ hE1 h1).mono ?_
    rintro e w2 ⟨rfl, hb2⟩
    rw [El.out, Ee.out]
    unfold st
    have hB2 : Below w.heap.size w w2 := hb1.trans (hb2.mono hb1.size)
    have hE2 := hE1.below hb2
    clear hb1 hb2
    go_wp2_with fail
    refine (split_any _ _ hE2 h1).mono ?_
    rintro e w3 ⟨rfl, hb3⟩
    rw [Ev.out]
    unfold st
    have hB3 : Below w.heap.size w w3 := hB2.trans (hb3.mono hB2.size)
    clear hB2 hb3
    go_wp2_with fail
    refine (rsplit_any _ _ h1).mono ?_
    rintro e w6 ⟨rfl, hb6⟩
    rw [Er.out]
    unfold st
    have hB6 : Below w.heap.size w w6 := hB3.trans (hb6.mono hB3.size)
    go_wp2_with fail
    go_ret
    exact ⟨by simp, hB6⟩
theorem labels_B1 (k : Int) (s : ByteArray) (w : World) (hE : Env w) (h1 : s.size ≤ 1000) (hk1 : 1 ≤ k) (hk5 : k ≤ 5) (Ef : Hid (fitB k s = false)) (El : Hid (labS k s = [])) (Ee : Hid (labE k s = 3)) (m : Int) (r : List UInt8) (hm : (m == 0) = false) (Ev : Hid (splV s = .tuple #[.int .i64 m, st r, .int .i64 0])) (Er : Hid (rsplV s = .tuple #[.int .i64 m, st r])) :
    Calls Tryd.prog 3 #[.int .i64 k, .string s] w fun e w' => e = .returned (.bool true) ∧ Below w.heap.size w w' := by
  go_enter Tryd.func3, Tryd.ntmps3
  go_wp2_with fail
  refine (awake_any _ hE).mono ?_
  rintro e w1 ⟨rfl, hb1⟩
  have hE1 := hE.below hb1
  go_wp2_with fail
  refine (label_any _ _ _ hE1 h1).mono ?_
  rintro e w2 ⟨rfl, hb2⟩
  rw [El.out, Ee.out]
  unfold st
  have hB2 : Below w.heap.size w w2 := hb1.trans (hb2.mono hb1.size)
  have hE2 := hE1.below hb2
  clear hb1 hb2
  go_wp2_with fail
  refine (split_any _ _ hE2 h1).mono ?_
  rintro e w3 ⟨rfl, hb3⟩
  rw [Ev.out]
  unfold st
  have hB3 : Below w.heap.size w w3 := hB2.trans (hb3.mono hB2.size)
  clear hB2 hb3
  go_wp2_with fail
  refine (rFits_any _ _ _ h1).mono ?_
  rintro e w4 ⟨rfl, hb4⟩
  rw [Ef.out]
  have hB4 : Below w.heap.size w w4 := hB3.trans (hb4.mono hB3.size)
  clear hB3 hb4
  go_wp2_with fail
  refine (rsplit_any _ _ h1).mono ?_
  rintro e w6 ⟨rfl, hb6⟩
  rw [Er.out]
  unfold st
  have hB6 : Below w.heap.size w w6 := hB4.trans (hb6.mono hB4.size)
  go_wp2_with fail
  go_ret
  exact ⟨by simp, hB6⟩
theorem labels_C1 (n : Nat) (s : ByteArray) (w : World) (hE : Env w) (h1 : s.size ≤ 1000) (hk1 : 1 ≤ n) (hk5 : n ≤ 5) (l : List UInt8) (Ef : Hid (fitB n s = true)) (El : Hid (labS n s = l)) (Ee : Hid (labE n s = 0)) (Ez : Hid (preB n ++ bs s = l)) (m : Int) (r : List UInt8) (hm : (m == 0) = false) (Ev : Hid (splV s = .tuple #[.int .i64 m, st r, .int .i64 0])) (Er : Hid (rsplV s = .tuple #[.int .i64 m, st r])) :
    Calls Tryd.prog 3 #[.int .i64 n, .string s] w fun e w' => e = .returned (.bool true) ∧ Below w.heap.size w w' := by
  go_enter Tryd.func3, Tryd.ntmps3
  go_wp2_with fail
  refine (awake_any _ hE).mono ?_
  rintro e w1 ⟨rfl, hb1⟩
  have hE1 := hE.below hb1
  go_wp2_with fail
  refine (label_any _ _ _ hE1 h1).mono ?_
  rintro e w2 ⟨rfl, hb2⟩
  rw [El.out, Ee.out]
  unfold st
  have hB2 : Below w.heap.size w w2 := hb1.trans (hb2.mono hb1.size)
  have hE2 := hE1.below hb2
  clear hb1 hb2
  go_wp2_with fail
  refine (split_any _ _ hE2 h1).mono ?_
  rintro e w3 ⟨rfl, hb3⟩
  rw [Ev.out]
  unfold st
  have hB3 : Below w.heap.size w w3 := hB2.trans (hb3.mono hB2.size)
  clear hB2 hb3
  go_wp2_with fail
  refine (rFits_any _ _ _ h1).mono ?_
  rintro e w4 ⟨rfl, hb4⟩
  rw [Ef.out]
  have hB4 : Below w.heap.size w w4 := hB3.trans (hb4.mono hB3.size)
  clear hB3 hb4
  go_wp2_with fail
  refine (rLabel_any n _ _ hk1 hk5 h1).mono ?_
  rintro e w5 ⟨rfl, hb5⟩
  rw [Ez.out]
  unfold st
  have hB5 : Below w.heap.size w w5 := hB4.trans (hb5.mono hB4.size)
  clear hB4 hb5
  go_wp2_with fail
  refine (rsplit_any _ _ h1).mono ?_
  rintro e w6 ⟨rfl, hb6⟩
  rw [Er.out]
  unfold st
  have hB6 : Below w.heap.size w w6 := hB5.trans (hb6.mono hB5.size)
  go_wp2_with fail
  go_ret
  exact ⟨by simp, hB6⟩

theorem preB_some (k : Int) (h1 : 1 ≤ k) (h5 : k ≤ 5) : preB k ≠ [] := by
  obtain rfl | rfl | rfl | rfl | rfl : k = 1 ∨ k = 2 ∨ k = 3 ∨ k = 4 ∨ k = 5 := by omega
  all_goals simp [preB]
theorem preB_no (k : Int) (h : k < 1 ∨ 5 < k) : preB k = [] := by
  unfold preB
  rw [if_neg (by omega), if_neg (by omega), if_neg (by omega), if_neg (by omega), if_neg (by omega)]

theorem identLabels_walk (k : Int) (s : ByteArray) (w : World) (hE : Env w) :
    Calls Tryd.prog 3 #[.int .i64 k, .string s] w fun e w' => e = .returned (.bool true) ∧ Below w.heap.size w w' := by
  by_cases h1 : s.size ≤ 1000
  · have cs : (Hid (splV s = .tuple #[.int .i64 0, st [], .int .i64 3]) ∧ Hid (rsplV s = .tuple #[.int .i64 0, st []])) ∨ ∃ (m : Int) (r : List UInt8), (m == 0) = false ∧ Hid (splV s = .tuple #[.int .i64 m, st r, .int .i64 0]) ∧ Hid (rsplV s = .tuple #[.int .i64 m, st r]) := by
      by_cases h : splK s = 0
      · exact .inl ⟨splV_zero s h, rsplV_zero s h⟩
      · exact .inr ⟨_, _, by simpa using h, splV_some s h, rsplV_some s h⟩
    by_cases hk : k < 1 ∨ 5 < k
    · have hp := preB_no k hk
      have El : Hid (labS k s = []) := by unfold labS; rw [if_pos (.inl hp)]; rfl
      have Ee : Hid (labE k s = 2) := by unfold labE; rw [if_pos hp]; rfl
      rcases cs with ⟨Ev, Er⟩ | ⟨m, r, hm, Ev, Er⟩
      · exact labels_A0 k s w hE h1 hk El Ee Ev Er
      · exact labels_A1 k s w hE h1 hk El Ee m r hm Ev Er
    · have hk1 : 1 ≤ k := by omega
      have hk5 : k ≤ 5 := by omega
      have hp := preB_some k hk1 hk5
      cases hf : fitB k s
      · have El : Hid (labS k s = []) := by unfold labS; rw [if_pos (.inr hf)]; rfl
        have Ee : Hid (labE k s = 3) := by unfold labE; rw [if_neg hp, if_pos hf]; rfl
        rcases cs with ⟨Ev, Er⟩ | ⟨m, r, hm, Ev, Er⟩
        · exact labels_B0 k s w hE h1 hk1 hk5 hf El Ee Ev Er
        · exact labels_B1 k s w hE h1 hk1 hk5 hf El Ee m r hm Ev Er
      · obtain ⟨n, rfl⟩ := Int.eq_ofNat_of_zero_le (show 0 ≤ k by omega)
        have El : Hid (labS n s = preB n ++ bs s) := by unfold labS; rw [if_neg (by simp [hp, hf])]; rfl
        have Ee : Hid (labE n s = 0) := by unfold labE; rw [if_neg hp, if_neg (by simp [hf])]; rfl
        rcases cs with ⟨Ev, Er⟩ | ⟨m, r, hm, Ev, Er⟩
        · exact labels_C0 n s w hE h1 (by omega) (by omega) _ hf El Ee rfl Ev Er
        · exact labels_C1 n s w hE h1 (by omega) (by omega) _ hf El Ee rfl m r hm Ev Er
  · go_enter Tryd.func3, Tryd.ntmps3
    go_wp2_with fail
    refine (awake_any _ hE).mono ?_
    rintro e w1 ⟨rfl, hb1⟩
    have hE1 := hE.below hb1
    go_wp2_with fail
    refine (awake_any _ hE1).mono ?_
    rintro e w2 ⟨rfl, hb2⟩
    have hB2 : Below w.heap.size w w2 := hb1.trans (hb2.mono hb1.size)
    go_wp2_with fail
    go_ret
    exact ⟨rfl, hB2⟩
end Go.Proofs.YtbjjimfdbbhjgaaDoor
