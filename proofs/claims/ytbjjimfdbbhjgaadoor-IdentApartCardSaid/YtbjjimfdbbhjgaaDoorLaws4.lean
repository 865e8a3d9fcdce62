/- IdentApart: the plain facts, and its walk. -/
import Derived.Test.YtbjjimfdbbhjgaaDoorLaws1
namespace Go.Proofs.YtbjjimfdbbhjgaaDoor
open Go Go.RowKit

theorem low_word (s : ByteArray) (h : lowB s = true) : wordB (bs s) = true ∧ smallB ((bs s).headD 0).toNat = true := by
  unfold lowB at h; rw [nm1] at h
  simp only [Bool.and_eq_true] at h
  exact h.1
theorem up_word (s : ByteArray) (h : upB (bs s) = true) : wordB (bs s) = true ∧ capB ((bs s).headD 0).toNat = true := by
  unfold upB at h; simpa only [Bool.and_eq_true] using h
theorem small_cap (c : Int) (h : smallB c = true) : capB c = false := by
  unfold smallB at h; unfold capB
  rw [decide_eq_true_iff] at h
  rw [decide_eq_false_iff_not]; omega
theorem cap_small (c : Int) (h : capB c = true) : smallB c = false := by
  unfold capB at h; unfold smallB
  rw [decide_eq_true_iff] at h
  rw [decide_eq_false_iff_not]; omega
theorem low_up (s : ByteArray) (h : lowB s = true) : upB (bs s) = false := by
  unfold upB; rw [small_cap _ (low_word s h).2, Bool.and_false]
theorem up_low (s : ByteArray) (h : upB (bs s) = true) : lowB s = false := by
  unfold lowB; rw [nm1, cap_small _ (up_word s h).2, Bool.and_false, Bool.false_and]
theorem var_head (l : List UInt8) (h : varB l = true) : (l.headD 0).toNat = 39 := by
  unfold varB at h; simp only [Bool.and_eq_true, beq_iff_eq] at h; exact h.1.1.2
theorem low_var (s : ByteArray) (h : lowB s = true) : varB (bs s) = false := by
  cases hv : varB (bs s)
  · rfl
  · have h1 := var_head _ hv
    have h2 := (low_word s h).2
    rw [h1] at h2; revert h2; decide
theorem up_var (s : ByteArray) (h : upB (bs s) = true) : varB (bs s) = false := by
  cases hv : varB (bs s)
  · rfl
  · have h1 := var_head _ hv
    have h2 := (up_word s h).2
    rw [h1] at h2; revert h2; decide
theorem var_lab (l : List UInt8) (h : varB l = true) : labB l = false := by
  have h1 := var_head l h
  cases l with
  | nil => rfl
  | cons b l =>
    simp only [List.headD_cons] at h1
    unfold labB dots
    rw [List.all_cons, h1]
    rfl
theorem word_lab (l : List UInt8) (h : wordB l = true) : labB l = true := by
  unfold wordB at h
  simp only [Bool.and_eq_true, decide_eq_true_eq] at h
  unfold labB
  have : dots l = true := by
    unfold dots; unfold innsB at h
    rw [List.all_eq_true] at h ⊢
    intro x hx; rw [h.2 x hx]; rfl
  rw [this]; simp; omega
theorem word_spl (s : ByteArray) (h : wordB (bs s) = true) : splL s = [s] := by
  unfold wordB innsB at h
  simp only [Bool.and_eq_true] at h
  have h1 := splL_data s
  rw [spl_none 46 s.data.toList (fun hm => by
    have := List.all_eq_true.1 h.2 46 hm
    revert this; decide)] at h1
  have hlen : (splL s).length = 1 := by have := congrArg List.length h1; simpa using this
  obtain ⟨x, hx⟩ := List.length_eq_one_iff.1 hlen
  rw [hx] at h1 ⊢
  simp only [List.map_cons, List.map_nil, List.cons.injEq, and_true] at h1
  congr 1
  cases x; cases s
  simp only [ByteArray.mk.injEq]
  exact Array.toList_inj.1 h1
theorem name_path (s : ByteArray) (h : lowB s = true ∨ upB (bs s) = true) : pathB (splL s) = true := by
  have hw : wordB (bs s) = true := h.elim (fun h => (low_word s h).1) (fun h => (up_word s h).1)
  rw [word_spl s hw]
  unfold pathB
  rcases h with h | h <;> simp [h, upsB]
theorem name_ppL (s : ByteArray) (h : lowB s = true ∨ upB (bs s) = true) : ppL s = [s] := by
  unfold ppL
  rw [name_path s h, word_spl s (h.elim (fun h => (low_word s h).1) (fun h => (up_word s h).1))]; rfl
theorem name_ppE (s : ByteArray) (h : lowB s = true ∨ upB (bs s) = true) : ppE s = 0 := by
  unfold ppE; rw [name_path s h]; rfl
theorem word_size (s : ByteArray) (h : wordB (bs s) = true) : 1 ≤ s.size ∧ s.size ≤ 24 := by
  unfold wordB at h
  simp only [Bool.and_eq_true, decide_eq_true_eq, bs_length] at h
  exact h.1

/-- The name with a digit behind it. -/
def more (s : ByteArray) : ByteArray := s ++ ⟨#[48]⟩
theorem bs_more (s : ByteArray) : bs (more s) = bs s ++ [48] := by simp [bs, more]
theorem more_head (s : ByteArray) (h : 1 ≤ s.size) : (bs (more s)).headD 0 = (bs s).headD 0 := by
  rw [bs_more]
  have : (bs s).length = s.size := bs_length s
  cases hl : bs s with
  | nil => rw [hl] at this; simp at this; omega
  | cons x l => rfl
theorem more_inns (s : ByteArray) : innsB (bs (more s)) = innsB (bs s) := by
  rw [bs_more]; unfold innsB; rw [List.all_append]
  have : ([48] : List UInt8).all (fun b => innB b.toNat) = true := by decide
  rw [this, Bool.and_true]
theorem more_len (s : ByteArray) : (bs (more s)).length = s.size + 1 := by rw [bs_more, List.length_append, bs_length]; rfl
theorem more_word (s : ByteArray) (h : wordB (bs s) = true) : wordB (bs (more s)) = decide (s.size ≤ 23) := by
  unfold wordB at h ⊢
  simp only [Bool.and_eq_true] at h
  rw [more_inns, more_len, h.2]
  by_cases h2 : s.size ≤ 23 <;> simp [h2] <;> omega
theorem more_kw (s : ByteArray) : kwB (more s) = false := by
  cases h : kwB (more s)
  · rfl
  · exfalso
    have hm : more s ∈ keyList := (Lib.containsS_iff _ _).1 h
    have hall : keyList.all (fun x => x.data.toList.getLastD 0 != 48) = true := by decide +kernel
    have := List.all_eq_true.1 hall _ hm
    have e : (more s).data.toList = bs s ++ [48] := bs_more s
    rw [e] at this
    simp at this
theorem more_low (s : ByteArray) (h : lowB s = true) : lowB (more s) = decide (s.size ≤ 23) := by
  obtain ⟨hw, hs⟩ := low_word s h
  unfold lowB
  rw [nm1, more_word s hw, more_head s (word_size s hw).1, hs, more_kw]; simp
theorem more_low2 (s : ByteArray) (h : upB (bs s) = true) : lowB (more s) = false := by
  obtain ⟨hw, hs⟩ := up_word s h
  unfold lowB
  rw [nm1, more_head s (word_size s hw).1, cap_small _ hs]; simp
theorem more_up (s : ByteArray) (h : upB (bs s) = true) : upB (bs (more s)) = decide (s.size ≤ 23) := by
  obtain ⟨hw, hs⟩ := up_word s h
  unfold upB
  rw [more_word s hw, more_head s (word_size s hw).1, hs]; simp
theorem more_up2 (s : ByteArray) (h : lowB s = true) : upB (bs (more s)) = false := by
  obtain ⟨hw, hs⟩ := low_word s h
  unfold upB
  rw [more_head s (word_size s hw).1, small_cap _ hs]; simp

theorem apart_none_false (s : ByteArray) (w : World) (hE : Env w) (h1 : s.size ≤ 1000) (EL : Hid (lowB s = false)) (EU : Hid (upB (bs s) = false)) (EV : Hid (varB (bs s) = false)) (EB : Hid (labB (bs s) = false ∨ varB (bs s) = false)) :
    Calls Tryd.prog 6 #[.string s] w fun e w' => e = .returned (.bool true) ∧ Below w.heap.size w w' := by
  go_enter Tryd.func6, Tryd.ntmps6
  go_wp2_with fail
  refine (awake_any _ hE).mono ?_
  rintro e w1 ⟨rfl, hb1⟩
  have hE1 := hE.below hb1
  go_wp2_with fail
  refine (isLower_any _ _ hE1 h1).mono ?_
  rintro e w2 ⟨rfl, hb2⟩
  rw [EL.out]
  have hB2 : Below w.heap.size w w2 := hb1.trans (hb2.mono hb1.size)
  have hE2 := hE1.below hb2
  clear hb1 hb2 hE1
  go_wp2_with fail
  refine (isUpper_any _ _ h1).mono ?_
  rintro e w3 ⟨rfl, hb3⟩
  rw [EU.out]
  have hB3 : Below w.heap.size w w3 := hB2.trans (hb3.mono hB2.size)
  have hE3 := hE2.below hb3
  clear hB2 hb3 hE2
  go_wp2_with fail
  refine (isVar_any _ _ h1).mono ?_
  rintro e w4 ⟨rfl, hb4⟩
  rw [EV.out]
  have hB4 : Below w.heap.size w w4 := hB3.trans (hb4.mono hB3.size)
  have hE4 := hE3.below hb4
  clear hB3 hb4 hE3
  go_wp2_with fail
  go_ret
  exact ⟨rfl, hB4⟩
theorem apart_none_true (s : ByteArray) (w : World) (hE : Env w) (h1 : s.size ≤ 1000) (EL : Hid (lowB s = false)) (EU : Hid (upB (bs s) = false)) (EV : Hid (varB (bs s) = true)) (EB : Hid (labB (bs s) = false ∨ varB (bs s) = false)) :
    Calls Tryd.prog 6 #[.string s] w fun e w' => e = .returned (.bool true) ∧ Below w.heap.size w w' := by
  go_enter Tryd.func6, Tryd.ntmps6
  go_wp2_with fail
  refine (awake_any _ hE).mono ?_
  rintro e w1 ⟨rfl, hb1⟩
  have hE1 := hE.below hb1
  go_wp2_with fail
  refine (isLower_any _ _ hE1 h1).mono ?_
  rintro e w2 ⟨rfl, hb2⟩
  rw [EL.out]
  have hB2 : Below w.heap.size w w2 := hb1.trans (hb2.mono hb1.size)
  have hE2 := hE1.below hb2
  clear hb1 hb2 hE1
  go_wp2_with fail
  refine (isUpper_any _ _ h1).mono ?_
  rintro e w3 ⟨rfl, hb3⟩
  rw [EU.out]
  have hB3 : Below w.heap.size w w3 := hB2.trans (hb3.mono hB2.size)
  have hE3 := hE2.below hb3
  clear hB2 hb3 hE2
  go_wp2_with fail
  refine (isVar_any _ _ h1).mono ?_
  rintro e w4 ⟨rfl, hb4⟩
  rw [EV.out]
  have hB4 : Below w.heap.size w w4 := hB3.trans (hb4.mono hB3.size)
  have hE4 := hE3.below hb4
  clear hB3 hb4 hE3
  go_wp2_with fail
  refine (isLabel_any _ _ h1).mono ?_
  rintro e w5 ⟨rfl, hb5⟩
  rw [EB.out.resolve_right (by rw [EV.out]; simp)]
  have hB5 : Below w.heap.size w w5 := hB4.trans (hb5.mono hB4.size)
  go_wp2_with fail
  go_ret
  exact ⟨rfl, hB5⟩
theorem apart_low_short (s : ByteArray) (w : World) (hE : Env w) (h1 : s.size ≤ 1000) (EL : Hid (lowB s = true)) (EU : Hid (upB (bs s) = false)) (EV : Hid (varB (bs s) = false)) (EB : Hid (labB (bs s) = true)) (hz : s.size ≤ 23)
    (EP : Hid (ppL s = [s])) (EE : Hid (ppE s = 0)) (EM : Hid (lowB (more s) = true)) (EN : Hid (upB (bs (more s)) = false)) :
    Calls Tryd.prog 6 #[.string s] w fun e w' => e = .returned (.bool true) ∧ Below w.heap.size w w' := by
  have hm : (more s).size ≤ 1000 := by have := more_len s; rw [bs_length] at this; omega
  have hsum : ¬ 9223372036854775807 < s.size + 1 := by omega
  go_enter Tryd.func6, Tryd.ntmps6
  go_wp2_with fail
  refine (awake_any _ hE).mono ?_
  rintro e w1 ⟨rfl, hb1⟩
  have hE1 := hE.below hb1
  go_wp2_with fail
  refine (isLower_any _ _ hE1 h1).mono ?_
  rintro e w2 ⟨rfl, hb2⟩
  rw [EL.out]
  have hB2 : Below w.heap.size w w2 := hb1.trans (hb2.mono hb1.size)
  have hE2 := hE1.below hb2
  clear hb1 hb2 hE1
  go_wp2_with fail
  refine (isUpper_any _ _ h1).mono ?_
  rintro e w3 ⟨rfl, hb3⟩
  rw [EU.out]
  have hB3 : Below w.heap.size w w3 := hB2.trans (hb3.mono hB2.size)
  have hE3 := hE2.below hb3
  clear hB2 hb3 hE2
  go_wp2_with fail
  refine (isVar_any _ _ h1).mono ?_
  rintro e w4 ⟨rfl, hb4⟩
  rw [EV.out]
  have hB4 : Below w.heap.size w w4 := hB3.trans (hb4.mono hB3.size)
  have hE4 := hE3.below hb4
  clear hB3 hb4 hE3
  go_wp2_with fail
  refine (parsePath_any _ _ hE4 h1).mono ?_
  rintro e w5 ⟨v, rfl, hv, hb5⟩
  rw [EE.out]
  rw [EP.out] at hv
  have Hv := Lib.hid hv
  have hB5 : Below w.heap.size w w5 := hB4.trans (hb5.mono hB4.size)
  have hE5 := hE4.below hb5
  clear hB4 hb5 hE4 hv
  go_wp2_with fail
  refine (isLabel_any _ _ h1).mono ?_
  rintro e w6 ⟨rfl, hb6⟩
  rw [EB.out]
  have Hv6 := Lib.hid (Hv.out.below hb6)
  have hB6 : Below w.heap.size w w6 := hB5.trans (hb6.mono hB5.size)
  have hE6 := hE5.below hb6
  clear hB5 hb6 hE5 Hv
  go_wp2_with fail
  have hB3 : Below w6.heap.size w6 (w6.alloc (.cells #[.string s] 9)) := (Below.refl _ _).alloc (Nat.le_refl _) _
  refine (equal_any _ _ [s] [s] _ (Hv6.out.below hB3) (isStrs_alloc w6 [s] 1 9 rfl) (by simp) (by simp)).mono ?_
  rintro e w7 ⟨rfl, hb7⟩
  have hB4 : Below w6.heap.size w6 w7 := hB3.trans (hb7.mono hB3.size)
  have hB7 : Below w.heap.size w w7 := hB6.trans (hB4.mono hB6.size)
  have hE7 := hE6.below hB4
  clear hB3 hB4 hb7 hB6 hE6 Hv6
  simp only [decide_true]
  go_wp2_with fail
  change Calls _ _ #[.string (more s)] _ _
  refine (isLower_any _ _ hE7 hm).mono ?_
  rintro e w8 ⟨rfl, hb8⟩
  rw [EM.out]
  have hB8 : Below w.heap.size w w8 := hB7.trans (hb8.mono hB7.size)
  clear hB7 hb8
  go_wp2_with fail
  change Calls _ _ #[.string (more s)] _ _
  refine (isUpper_any _ _ hm).mono ?_
  rintro e w9 ⟨rfl, hb9⟩
  rw [EN.out]
  have hB9 : Below w.heap.size w w9 := hB8.trans (hb9.mono hB8.size)
  clear hB8 hb9
  go_wp2_with fail
  go_ret
  exact ⟨by simp <;> omega, hB9⟩
theorem apart_low_long (s : ByteArray) (w : World) (hE : Env w) (h1 : s.size ≤ 1000) (EL : Hid (lowB s = true)) (EU : Hid (upB (bs s) = false)) (EV : Hid (varB (bs s) = false)) (EB : Hid (labB (bs s) = true)) (hz : s.size = 24)
    (EP : Hid (ppL s = [s])) (EE : Hid (ppE s = 0)) (EM : Hid (lowB (more s) = false)) (EN : Hid (upB (bs (more s)) = false)) :
    Calls Tryd.prog 6 #[.string s] w fun e w' => e = .returned (.bool true) ∧ Below w.heap.size w w' := by
  have hm : (more s).size ≤ 1000 := by have := more_len s; rw [bs_length] at this; omega
  have hsum : ¬ 9223372036854775807 < s.size + 1 := by omega
  have hz2 : ¬ s.size ≤ 23 := by omega
  have Hz := Lib.hid hz
  clear hz
  go_enter Tryd.func6, Tryd.ntmps6
  go_wp2_with fail
  refine (awake_any _ hE).mono ?_
  rintro e w1 ⟨rfl, hb1⟩
  have hE1 := hE.below hb1
  go_wp2_with fail
  refine (isLower_any _ _ hE1 h1).mono ?_
  rintro e w2 ⟨rfl, hb2⟩
  rw [EL.out]
  have hB2 : Below w.heap.size w w2 := hb1.trans (hb2.mono hb1.size)
  have hE2 := hE1.below hb2
  clear hb1 hb2 hE1
  go_wp2_with fail
  refine (isUpper_any _ _ h1).mono ?_
  rintro e w3 ⟨rfl, hb3⟩
  rw [EU.out]
  have hB3 : Below w.heap.size w w3 := hB2.trans (hb3.mono hB2.size)
  have hE3 := hE2.below hb3
  clear hB2 hb3 hE2
  go_wp2_with fail
  refine (isVar_any _ _ h1).mono ?_
  rintro e w4 ⟨rfl, hb4⟩
  rw [EV.out]
  have hB4 : Below w.heap.size w w4 := hB3.trans (hb4.mono hB3.size)
  have hE4 := hE3.below hb4
  clear hB3 hb4 hE3
  go_wp2_with fail
  refine (parsePath_any _ _ hE4 h1).mono ?_
  rintro e w5 ⟨v, rfl, hv, hb5⟩
  rw [EE.out]
  rw [EP.out] at hv
  have Hv := Lib.hid hv
  have hB5 : Below w.heap.size w w5 := hB4.trans (hb5.mono hB4.size)
  have hE5 := hE4.below hb5
  clear hB4 hb5 hE4 hv
  go_wp2_with fail
  refine (isLabel_any _ _ h1).mono ?_
  rintro e w6 ⟨rfl, hb6⟩
  rw [EB.out]
  have Hv6 := Lib.hid (Hv.out.below hb6)
  have hB6 : Below w.heap.size w w6 := hB5.trans (hb6.mono hB5.size)
  have hE6 := hE5.below hb6
  clear hB5 hb6 hE5 Hv
  go_wp2_with fail
  have hB3 : Below w6.heap.size w6 (w6.alloc (.cells #[.string s] 9)) := (Below.refl _ _).alloc (Nat.le_refl _) _
  refine (equal_any _ _ [s] [s] _ (Hv6.out.below hB3) (isStrs_alloc w6 [s] 1 9 rfl) (by simp) (by simp)).mono ?_
  rintro e w7 ⟨rfl, hb7⟩
  have hB4 : Below w6.heap.size w6 w7 := hB3.trans (hb7.mono hB3.size)
  have hB7 : Below w.heap.size w w7 := hB6.trans (hB4.mono hB6.size)
  have hE7 := hE6.below hB4
  clear hB3 hB4 hb7 hB6 hE6 Hv6
  simp only [decide_true]
  go_wp2_with fail
  change Calls _ _ #[.string (more s)] _ _
  refine (isLower_any _ _ hE7 hm).mono ?_
  rintro e w8 ⟨rfl, hb8⟩
  rw [EM.out]
  have hB8 : Below w.heap.size w w8 := hB7.trans (hb8.mono hB7.size)
  clear hB7 hb8
  go_wp2_with fail
  change Calls _ _ #[.string (more s)] _ _
  refine (isUpper_any _ _ hm).mono ?_
  rintro e w9 ⟨rfl, hb9⟩
  rw [EN.out]
  have hB9 : Below w.heap.size w w9 := hB8.trans (hb9.mono hB8.size)
  clear hB8 hb9
  go_wp2_with fail
  go_ret
  exact ⟨by simp <;> omega, hB9⟩
theorem apart_up_short (s : ByteArray) (w : World) (hE : Env w) (h1 : s.size ≤ 1000) (EL : Hid (lowB s = false)) (EU : Hid (upB (bs s) = true)) (EV : Hid (varB (bs s) = false)) (EB : Hid (labB (bs s) = true)) (hz : s.size ≤ 23)
    (EP : Hid (ppL s = [s])) (EE : Hid (ppE s = 0)) (EM : Hid (lowB (more s) = false)) (EN : Hid (upB (bs (more s)) = true)) :
    Calls Tryd.prog 6 #[.string s] w fun e w' => e = .returned (.bool true) ∧ Below w.heap.size w w' := by
  have hm : (more s).size ≤ 1000 := by have := more_len s; rw [bs_length] at this; omega
  have hsum : ¬ 9223372036854775807 < s.size + 1 := by omega
  go_enter Tryd.func6, Tryd.ntmps6
  go_wp2_with fail
  refine (awake_any _ hE).mono ?_
  rintro e w1 ⟨rfl, hb1⟩
  have hE1 := hE.below hb1
  go_wp2_with fail
  refine (isLower_any _ _ hE1 h1).mono ?_
  rintro e w2 ⟨rfl, hb2⟩
  rw [EL.out]
  have hB2 : Below w.heap.size w w2 := hb1.trans (hb2.mono hb1.size)
  have hE2 := hE1.below hb2
  clear hb1 hb2 hE1
  go_wp2_with fail
  refine (isUpper_any _ _ h1).mono ?_
  rintro e w3 ⟨rfl, hb3⟩
  rw [EU.out]
  have hB3 : Below w.heap.size w w3 := hB2.trans (hb3.mono hB2.size)
  have hE3 := hE2.below hb3
  clear hB2 hb3 hE2
  go_wp2_with fail
  refine (isVar_any _ _ h1).mono ?_
  rintro e w4 ⟨rfl, hb4⟩
  rw [EV.out]
  have hB4 : Below w.heap.size w w4 := hB3.trans (hb4.mono hB3.size)
  have hE4 := hE3.below hb4
  clear hB3 hb4 hE3
  go_wp2_with fail
  refine (parsePath_any _ _ hE4 h1).mono ?_
  rintro e w5 ⟨v, rfl, hv, hb5⟩
  rw [EE.out]
  rw [EP.out] at hv
  have Hv := Lib.hid hv
  have hB5 : Below w.heap.size w w5 := hB4.trans (hb5.mono hB4.size)
  have hE5 := hE4.below hb5
  clear hB4 hb5 hE4 hv
  go_wp2_with fail
  refine (isLabel_any _ _ h1).mono ?_
  rintro e w6 ⟨rfl, hb6⟩
  rw [EB.out]
  have Hv6 := Lib.hid (Hv.out.below hb6)
  have hB6 : Below w.heap.size w w6 := hB5.trans (hb6.mono hB5.size)
  have hE6 := hE5.below hb6
  clear hB5 hb6 hE5 Hv
  go_wp2_with fail
  have hB3 : Below w6.heap.size w6 (w6.alloc (.cells #[.string s] 9)) := (Below.refl _ _).alloc (Nat.le_refl _) _
  refine (equal_any _ _ [s] [s] _ (Hv6.out.below hB3) (isStrs_alloc w6 [s] 1 9 rfl) (by simp) (by simp)).mono ?_
  rintro e w7 ⟨rfl, hb7⟩
  have hB4 : Below w6.heap.size w6 w7 := hB3.trans (hb7.mono hB3.size)
  have hB7 : Below w.heap.size w w7 := hB6.trans (hB4.mono hB6.size)
  have hE7 := hE6.below hB4
  clear hB3 hB4 hb7 hB6 hE6 Hv6
  simp only [decide_true]
  go_wp2_with fail
  change Calls _ _ #[.string (more s)] _ _
  refine (isLower_any _ _ hE7 hm).mono ?_
  rintro e w8 ⟨rfl, hb8⟩
  rw [EM.out]
  have hB8 : Below w.heap.size w w8 := hB7.trans (hb8.mono hB7.size)
  clear hB7 hb8
  go_wp2_with fail
  change Calls _ _ #[.string (more s)] _ _
  refine (isUpper_any _ _ hm).mono ?_
  rintro e w9 ⟨rfl, hb9⟩
  rw [EN.out]
  have hB9 : Below w.heap.size w w9 := hB8.trans (hb9.mono hB8.size)
  clear hB8 hb9
  go_wp2_with fail
  go_ret
  exact ⟨by simp <;> omega, hB9⟩
theorem apart_up_long (s : ByteArray) (w : World) (hE : Env w) (h1 : s.size ≤ 1000) (EL : Hid (lowB s = false)) (EU : Hid (upB (bs s) = true)) (EV : Hid (varB (bs s) = false)) (EB : Hid (labB (bs s) = true)) (hz : s.size = 24)
    (EP : Hid (ppL s = [s])) (EE : Hid (ppE s = 0)) (EM : Hid (lowB (more s) = false)) (EN : Hid (upB (bs (more s)) = false)) :
    Calls Tryd.prog 6 #[.string s] w fun e w' => e = .returned (.bool true) ∧ Below w.heap.size w w' := by
  have hm : (more s).size ≤ 1000 := by have := more_len s; rw [bs_length] at this; omega
  have hsum : ¬ 9223372036854775807 < s.size + 1 := by omega
  have hz2 : ¬ s.size ≤ 23 := by omega
  have Hz := Lib.hid hz
  clear hz
  go_enter Tryd.func6, Tryd.ntmps6
  go_wp2_with fail
  refine (awake_any _ hE).mono ?_
  rintro e w1 ⟨rfl, hb1⟩
  have hE1 := hE.below hb1
  go_wp2_with fail
  refine (isLower_any _ _ hE1 h1).mono ?_
  rintro e w2 ⟨rfl, hb2⟩
  rw [EL.out]
  have hB2 : Below w.heap.size w w2 := hb1.trans (hb2.mono hb1.size)
  have hE2 := hE1.below hb2
  clear hb1 hb2 hE1
  go_wp2_with fail
  refine (isUpper_any _ _ h1).mono ?_
  rintro e w3 ⟨rfl, hb3⟩
  rw [EU.out]
  have hB3 : Below w.heap.size w w3 := hB2.trans (hb3.mono hB2.size)
  have hE3 := hE2.below hb3
  clear hB2 hb3 hE2
  go_wp2_with fail
  refine (isVar_any _ _ h1).mono ?_
  rintro e w4 ⟨rfl, hb4⟩
  rw [EV.out]
  have hB4 : Below w.heap.size w w4 := hB3.trans (hb4.mono hB3.size)
  have hE4 := hE3.below hb4
  clear hB3 hb4 hE3
  go_wp2_with fail
  refine (parsePath_any _ _ hE4 h1).mono ?_
  rintro e w5 ⟨v, rfl, hv, hb5⟩
  rw [EE.out]
  rw [EP.out] at hv
  have Hv := Lib.hid hv
  have hB5 : Below w.heap.size w w5 := hB4.trans (hb5.mono hB4.size)
  have hE5 := hE4.below hb5
  clear hB4 hb5 hE4 hv
  go_wp2_with fail
  refine (isLabel_any _ _ h1).mono ?_
  rintro e w6 ⟨rfl, hb6⟩
  rw [EB.out]
  have Hv6 := Lib.hid (Hv.out.below hb6)
  have hB6 : Below w.heap.size w w6 := hB5.trans (hb6.mono hB5.size)
  have hE6 := hE5.below hb6
  clear hB5 hb6 hE5 Hv
  go_wp2_with fail
  have hB3 : Below w6.heap.size w6 (w6.alloc (.cells #[.string s] 9)) := (Below.refl _ _).alloc (Nat.le_refl _) _
  refine (equal_any _ _ [s] [s] _ (Hv6.out.below hB3) (isStrs_alloc w6 [s] 1 9 rfl) (by simp) (by simp)).mono ?_
  rintro e w7 ⟨rfl, hb7⟩
  have hB4 : Below w6.heap.size w6 w7 := hB3.trans (hb7.mono hB3.size)
  have hB7 : Below w.heap.size w w7 := hB6.trans (hB4.mono hB6.size)
  have hE7 := hE6.below hB4
  clear hB3 hB4 hb7 hB6 hE6 Hv6
  simp only [decide_true]
  go_wp2_with fail
  change Calls _ _ #[.string (more s)] _ _
  refine (isLower_any _ _ hE7 hm).mono ?_
  rintro e w8 ⟨rfl, hb8⟩
  rw [EM.out]
  have hB8 : Below w.heap.size w w8 := hB7.trans (hb8.mono hB7.size)
  clear hB7 hb8
  go_wp2_with fail
  change Calls _ _ #[.string (more s)] _ _
  refine (isUpper_any _ _ hm).mono ?_
  rintro e w9 ⟨rfl, hb9⟩
  rw [EN.out]
  have hB9 : Below w.heap.size w w9 := hB8.trans (hb9.mono hB8.size)
  clear hB8 hb9
  go_wp2_with fail
  go_ret
  exact ⟨by simp <;> omega, hB9⟩

theorem identApart_walk (s : ByteArray) (w : World) (hE : Env w) :
    Calls Tryd.prog 6 #[.string s] w fun e w' => e = .returned (.bool true) ∧ Below w.heap.size w w' := by
  by_cases h1 : s.size ≤ 1000
  · cases hl : lowB s
    · cases hu : upB (bs s)
      · cases hv : varB (bs s)
        · exact apart_none_false s w hE h1 hl hu hv (.inr hv)
        · exact apart_none_true s w hE h1 hl hu hv (.inl (var_lab _ hv))
      · have hw := (up_word s hu).1
        have hz := (word_size s hw).2
        by_cases h23 : s.size ≤ 23
        · exact apart_up_short s w hE h1 hl hu (up_var s hu) (word_lab _ hw) h23 (name_ppL s (.inr hu)) (name_ppE s (.inr hu)) (more_low2 s hu) ((more_up s hu).trans (decide_eq_true h23))
        · exact apart_up_long s w hE h1 hl hu (up_var s hu) (word_lab _ hw) (by omega) (name_ppL s (.inr hu)) (name_ppE s (.inr hu)) (more_low2 s hu) ((more_up s hu).trans (decide_eq_false h23))
    · have hw := (low_word s hl).1
      have hz := (word_size s hw).2
      have hu := low_up s hl
      by_cases h23 : s.size ≤ 23
      · exact apart_low_short s w hE h1 hl hu (low_var s hl) (word_lab _ hw) h23 (name_ppL s (.inl hl)) (name_ppE s (.inl hl)) ((more_low s hl).trans (decide_eq_true h23)) (more_up2 s hl)
      · exact apart_low_long s w hE h1 hl hu (low_var s hl) (word_lab _ hw) (by omega) (name_ppL s (.inl hl)) (name_ppE s (.inl hl)) ((more_low s hl).trans (decide_eq_false h23)) (more_up2 s hl)
  · go_enter Tryd.func6, Tryd.ntmps6
    go_wp2_with fail
    refine (awake_any _ hE).mono ?_
    rintro e w1 ⟨rfl, hb1⟩
    have hE1 := hE.below hb1
    go_wp2_with fail
    refine (awake_any _ hE1).mono ?_
    rintro e w2 ⟨rfl, hb2⟩
    have hB2 : Below w.heap.size w w2 := hb1.trans (hb2.mono hb1.size)
    go_wp2_with fail
    go_ret
    exact ⟨rfl, hB2⟩
end Go.Proofs.YtbjjimfdbbhjgaaDoor
