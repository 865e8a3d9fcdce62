/- IdentBack: the plain facts, and its walk. -/
import Derived.Test.YtbjjimfdbbhjgaaDoorLaws5
import Derived.Test.YtbjjimfdbbhjgaaDoorLaws2
namespace Go.Proofs.YtbjjimfdbbhjgaaDoor
open Go Go.RowKit

/-- The label of a name, as a string. -/
def labA (k : Int) (s : ByteArray) : ByteArray := ⟨(preB k ++ bs s).toArray⟩
theorem bs_labA (k : Int) (s : ByteArray) : bs (labA k s) = preB k ++ bs s := by simp [bs, labA]
theorem fit_word (k : Int) (s : ByteArray) (h : fitB k s = true) : wordB (bs s) = true := by
  unfold fitB at h
  split at h
  · unfold lowB at h; rw [nm1] at h
    simp only [Bool.and_eq_true] at h; exact h.1.1
  · unfold upB at h; simp only [Bool.and_eq_true] at h; exact h.1
theorem word_sz (s : ByteArray) (h : wordB (bs s) = true) : 1 ≤ s.size ∧ s.size ≤ 24 := by
  unfold wordB at h
  simp only [Bool.and_eq_true, decide_eq_true_eq, bs_length] at h
  exact h.1
theorem labA_size (k : Int) (s : ByteArray) (h : fitB k s = true) : (labA k s).size ≤ 29 := by
  have h1 := bs_length (labA k s)
  rw [bs_labA, List.length_append, bs_length] at h1
  have := preB_len k
  have := word_sz s (fit_word k s h)
  omega
theorem lab_split (k : Int) (s : ByteArray) (hk1 : 1 ≤ k) (hk5 : k ≤ 5) (h : fitB k s = true) : splV (labA k s) = .tuple #[.int .i64 k, .string s, .int .i64 0] := by
  have hb : splK (labA k s) = k ∧ (bs (labA k s)).drop (preB k).length = bs s := by
    have hd : (bs (labA k s)).drop (preB k).length = bs s := by rw [bs_labA]; simp
    refine ⟨?_, hd⟩
    have hs : split1 k (labA k s) = true := by
      unfold split1
      rw [hd, bs_labA]
      have e : (ByteArray.mk (bs s).toArray) = s := by unfold bs; rfl
      rw [e, h]
      simp [Lib.hasPrefix]
    have hne : ∀ j : Int, (preB j).head? ≠ (preB k).head? → preB j ≠ [] → split1 j (labA k s) = false := fun j hj hj2 => by
      have : Lib.hasPrefix (bs (labA k s)) (preB j) = false := by
        rw [bs_labA]
        cases hp : preB j with
        | nil => exact absurd hp hj2
        | cons x r =>
          cases hq : preB k with
          | nil => exact absurd hq (preB_some k hk1 hk5)
          | cons y t =>
            rw [hp, hq] at hj
            simp only [List.head?_cons, ne_eq, Option.some.injEq] at hj
            unfold Lib.hasPrefix
            simp [List.isPrefixOf, hj]
      unfold split1; rw [this]; rfl
    have hks : k = 1 ∨ k = 2 ∨ k = 3 ∨ k = 4 ∨ k = 5 := by omega
    rcases hks with rfl | rfl | rfl | rfl | rfl
    · unfold splK; rw [if_pos hs]
    · unfold splK; rw [if_neg (by rw [hne 1 (by decide) (by decide)]; simp), if_pos hs]
    · unfold splK; rw [if_neg (by rw [hne 1 (by decide) (by decide)]; simp), if_neg (by rw [hne 2 (by decide) (by decide)]; simp), if_pos hs]
    · unfold splK; rw [if_neg (by rw [hne 1 (by decide) (by decide)]; simp), if_neg (by rw [hne 2 (by decide) (by decide)]; simp), if_neg (by rw [hne 3 (by decide) (by decide)]; simp), if_pos hs]
    · unfold splK; rw [if_neg (by rw [hne 1 (by decide) (by decide)]; simp), if_neg (by rw [hne 2 (by decide) (by decide)]; simp), if_neg (by rw [hne 3 (by decide) (by decide)]; simp), if_neg (by rw [hne 4 (by decide) (by decide)]; simp), if_pos hs]
  unfold splV
  rw [hb.1, if_neg (by omega), if_neg (by omega), hb.2]
  rfl
theorem preB_dots (k : Int) : dots (preB k) = true := by
  unfold preB; repeat' split
  all_goals decide
theorem inns_dots (l : List UInt8) (h : innsB l = true) : dots l = true := by
  unfold dots; unfold innsB at h
  rw [List.all_eq_true] at h ⊢
  intro x hx; rw [h x hx]; rfl
theorem lab_lab (k : Int) (s : ByteArray) (h : fitB k s = true) : labB (bs (labA k s)) = true := by
  have hw := fit_word k s h
  have hsz := word_sz s hw
  have hp := preB_len k
  unfold wordB at hw
  simp only [Bool.and_eq_true] at hw
  rw [bs_labA]
  unfold labB
  have : dots (preB k ++ bs s) = true := by
    have h1 := preB_dots k
    have h2 := inns_dots _ hw.2
    unfold dots at h1 h2 ⊢
    rw [List.all_append, h1, h2]; rfl
  rw [this, List.length_append, bs_length]
  simp; omega
theorem lab_suffix (k : Int) (s : ByteArray) (hk1 : 1 ≤ k) (hk5 : k ≤ 5) : Lib.hasSuffix (labA k s).data.toList (⟨#[46]⟩ ++ s : ByteArray).data.toList = true := by
  have e1 : (labA k s).data.toList = preB k ++ bs s := bs_labA k s
  have e2 : (⟨#[46]⟩ ++ s : ByteArray).data.toList = 46 :: bs s := by simp [bs]
  rw [e1, e2]
  unfold Lib.hasSuffix
  rw [List.isSuffixOf_iff_suffix]
  obtain ⟨r, hr⟩ : ∃ r, preB k = r ++ [46] := by
    have hks : k = 1 ∨ k = 2 ∨ k = 3 ∨ k = 4 ∨ k = 5 := by omega
    rcases hks with rfl | rfl | rfl | rfl | rfl
    · exact ⟨[118, 97, 108], rfl⟩
    · exact ⟨[116, 121, 112, 101], rfl⟩
    · exact ⟨[99, 111, 110], rfl⟩
    · exact ⟨[109, 111, 100], rfl⟩
    · exact ⟨[115, 105, 103], rfl⟩
  exact ⟨r, by rw [hr]; simp⟩

/-! Paths back. -/
theorem spl_tail (c : UInt8) : ∀ (r : List (List UInt8)) (x : List UInt8), c ∉ x → (∀ y ∈ r, c ∉ y) → spl c (x ++ Lib.joinTail [c] r) = x :: r
  | [], x, hx, _ => by simp [Lib.joinTail, spl_none c x hx]
  | y :: r, x, hx, hr => by
    have e : x ++ Lib.joinTail [c] (y :: r) = x ++ c :: (y ++ Lib.joinTail [c] r) := by simp [Lib.joinTail]
    rw [e, spl_hit c x _ hx, spl_tail c r y (hr y (by simp)) (fun z hz => hr z (by simp [hz]))]
theorem spl_length (c : UInt8) : ∀ l : List UInt8, (spl c l).length = l.count c + 1
  | [] => rfl
  | b :: l => by
    have ih := spl_length c l
    have hne := spl_ne c l
    by_cases h : b = c
    · rw [spl, if_pos h, List.length_cons, ih, h]; simp
    · rw [spl, if_neg h, List.length_cons, List.length_tail, ih, List.count_cons_of_ne h]; omega
theorem name_nopoint (s : ByteArray) (h : wordB (bs s) = true) : (46 : UInt8) ∉ s.data.toList := by
  unfold wordB innsB at h
  simp only [Bool.and_eq_true] at h
  intro hm
  have := List.all_eq_true.1 h.2 46 hm
  revert this; decide
theorem path_words (l : List ByteArray) (h : pathB l = true) : ∀ x ∈ l, wordB (bs x) = true := by
  intro x hx
  obtain ⟨k, hk, rfl⟩ := List.mem_iff_getElem.1 hx
  unfold pathB at h
  simp only [Bool.and_eq_true, decide_eq_true_eq, Bool.or_eq_true] at h
  by_cases e : k < l.length - 1
  · have h2 := h.1.2
    unfold upsB at h2
    rw [List.all_eq_true] at h2
    have hlt : k < (l.take (l.length - 1)).length := by rw [List.length_take]; omega
    have hm : l[k] ∈ l.take (l.length - 1) := by
      have : (l.take (l.length - 1))[k] = l[k] := by simp [List.getElem_take]
      rw [← this]; exact List.getElem_mem hlt
    exact fit_word 3 _ (by unfold fitB; rw [if_neg (by omega)]; exact h2 _ hm)
  · have ek : l.getD (l.length - 1) ByteArray.empty = l[k] := by
      have : k = l.length - 1 := by omega
      subst this; simp [List.getD, hk]
    rw [ek] at h
    rcases h.2 with h2 | h2
    · exact fit_word 1 _ (by unfold fitB; rw [if_pos (by omega)]; exact h2)
    · exact fit_word 3 _ (by unfold fitB; rw [if_neg (by omega)]; exact h2)
def txtA (l : List ByteArray) : ByteArray := ⟨(joinD l).toArray⟩
theorem txt_spl (l : List ByteArray) (h : pathB l = true) : spl 46 (joinD l) = l.map fun x => x.data.toList := by
  have hw := path_words l h
  cases l with
  | nil => exact absurd h (by decide)
  | cons x r =>
    unfold joinD
    rw [List.map_cons, Lib.join_cons]
    exact spl_tail 46 _ _ (name_nopoint x (hw x (by simp))) (fun y hy => by
      obtain ⟨z, hz, rfl⟩ := List.mem_map.1 hy
      exact name_nopoint z (hw z (by simp [hz])))
theorem txt_back (l : List ByteArray) (h : pathB l = true) : splL (txtA l) = l := by
  apply map_data_inj
  rw [splL_data]
  show spl 46 (txtA l).data.toList = _
  have : (txtA l).data.toList = joinD l := by simp [txtA]
  rw [this, txt_spl l h]
theorem txt_count (l : List ByteArray) (h : pathB l = true) : (Lib.countByte (joinD l) 46 : Int) = (l.length : Int) - 1 := by
  have h1 := congrArg List.length (txt_spl l h)
  rw [spl_length, List.length_map] at h1
  unfold Lib.countByte
  omega
theorem txt_size (l : List ByteArray) (h : pathB l = true) : (txtA l).size ≤ 1000 := by
  have h1 := joinD_len l h
  have h2 := path_len l h
  have : (txtA l).size = (joinD l).length := by simp [txtA, ByteArray.size]
  omega

theorem back_ok_true (k : Int) (s : ByteArray) (v : Value) (l : List ByteArray) (w : World) (h : IsStrs w v l) (hE : Env w) (h1 : s.size ≤ 1000) (Hlong : Hid (longB l = false)) (h50 : l.length ≤ 1000000) (hsz : Hid (∀ x ∈ l, x.size ≤ 1000))
    (A : ByteArray) (hA : A.size ≤ 1000) (El : Hid (st (labS k s) = .string A)) (Ee : Hid (labE k s = 0)) (Es : Hid (splV A = .tuple #[.int .i64 k, .string s, .int .i64 0])) (Eb : Hid (labB (bs A) = true)) (Ef : Hid (Lib.hasSuffix A.data.toList (⟨#[46]⟩ ++ s : ByteArray).data.toList = true))
    (T : ByteArray) (hT : T.size ≤ 1000) (Et : Hid (st (ptS l) = .string T)) (En : Hid (ptE l = 0)) (Ep : Hid (ppL T = l)) (Eq : Hid (ppE T = 0)) (Ecn : Hid ((Lib.countByte T.data.toList 46 : Int) = (l.length : Int) - 1)) :
    Calls Tryd.prog 8 #[.int .i64 k, .string s, v] w fun e w' => e = .returned (.bool true) ∧ Below w.heap.size w w' := by
  have hcat : ¬ 9223372036854775807 < 1 + s.size := by omega
  go_enter Tryd.func8, Tryd.ntmps8
  go_wp2_with fail
  refine (awake_any _ hE).mono ?_
  rintro e w1 ⟨rfl, hb1⟩
  have hE1 := hE.below hb1
  have Hv1 := Lib.hid (h.below hb1)
  clear h
  go_wp2_with fail
  refine (long_any _ l _ Hv1.out).mono ?_
  rintro e w2 ⟨rfl, rfl⟩
  rw [Hlong.out]
  go_wp2_with fail
  refine (label_any _ _ _ hE1 h1).mono ?_
  rintro e w2 ⟨rfl, hb2⟩
  rw [El.out, Ee.out]
  have hB2 : Below w.heap.size w w2 := hb1.trans (hb2.mono hb1.size)
  have hE2 := hE1.below hb2
  have Hv2 := Lib.hid (Hv1.out.below hb2)
  clear hb1 hb2 hE1 Hv1
  go_wp2_with fail
  refine (split_any _ _ hE2 hA).mono ?_
  rintro e w3 ⟨rfl, hb3⟩
  rw [Es.out]
  have hB3 : Below w.heap.size w w3 := hB2.trans (hb3.mono hB2.size)
  have hE3 := hE2.below hb3
  have Hv3 := Lib.hid (Hv2.out.below hb3)
  clear hB2 hb3 hE2 Hv2
  go_wp2_with fail
  refine (isLabel_any _ _ hA).mono ?_
  rintro e w4 ⟨rfl, hb4⟩
  rw [Eb.out]
  have hB4 : Below w.heap.size w w4 := hB3.trans (hb4.mono hB3.size)
  have hE4 := hE3.below hb4
  have Hv4 := Lib.hid (Hv3.out.below hb4)
  clear hB3 hb4 hE3 Hv3
  go_wp2_with fail
  refine (Tryd.strings_HasSuffix _ _ _ (by omega)).mono ?_
  rintro e w5 ⟨rfl, rfl⟩
  rw [Ef.out]
  go_wp2_with fail
  refine (pathText_any _ l _ Hv4.out hE4 hsz.out h50).mono ?_
  rintro e w6 ⟨rfl, hb6⟩
  rw [Et.out, En.out]
  have hB6 : Below w.heap.size w _ := hB4.trans (hb6.mono hB4.size)
  have hE6 := hE4.below hb6
  have Hv6 := Lib.hid (Hv4.out.below hb6)
  clear hB4 hb6 hE4 Hv4
  go_wp2_with fail
  refine (parsePath_any _ _ hE6 hT).mono ?_
  rintro e w7 ⟨p, rfl, hp, hb7⟩
  rw [Eq.out]
  rw [Ep.out] at hp
  have Hp7 := Lib.hid hp
  clear hp
  have hB7 : Below w.heap.size w w7 := hB6.trans (hb7.mono hB6.size)
  have Hv7 := Lib.hid (Hv6.out.below hb7)
  clear hB6 hb7 Hv6
  go_wp2_with fail
  refine (equal_any _ _ _ _ _ Hp7.out Hv7.out h50 h50).mono ?_
  rintro e w8 ⟨rfl, hb8⟩
  have hB8 : Below w.heap.size w w8 := hB7.trans (hb8.mono hB7.size)
  have Hv8 := Lib.hid (Hv7.out.below hb8)
  clear hB7 hb8 Hv7
  simp only [decide_true]
  obtain ⟨va, vc, rfl, _, _⟩ := Hv8.out
  go_wp2_with fail
  refine (Tryd.strings_Count_one _ _ _).mono ?_
  rintro e w9 ⟨rfl, rfl⟩
  rw [Ecn.out]
  go_wp2_with fail
  go_ret
  exact ⟨by simp, hB8⟩
theorem back_ok_false (k : Int) (s : ByteArray) (v : Value) (l : List ByteArray) (w : World) (h : IsStrs w v l) (hE : Env w) (h1 : s.size ≤ 1000) (Hlong : Hid (longB l = false)) (h50 : l.length ≤ 1000000) (hsz : Hid (∀ x ∈ l, x.size ≤ 1000))
    (A : ByteArray) (hA : A.size ≤ 1000) (El : Hid (st (labS k s) = .string A)) (Ee : Hid (labE k s = 0)) (Es : Hid (splV A = .tuple #[.int .i64 k, .string s, .int .i64 0])) (Eb : Hid (labB (bs A) = true)) (Ef : Hid (Lib.hasSuffix A.data.toList (⟨#[46]⟩ ++ s : ByteArray).data.toList = true))
    (Et : Hid (ptS l = [])) (En : Hid (ptE l = 1)) :
    Calls Tryd.prog 8 #[.int .i64 k, .string s, v] w fun e w' => e = .returned (.bool true) ∧ Below w.heap.size w w' := by
  have hcat : ¬ 9223372036854775807 < 1 + s.size := by omega
  go_enter Tryd.func8, Tryd.ntmps8
  go_wp2_with fail
  refine (awake_any _ hE).mono ?_
  rintro e w1 ⟨rfl, hb1⟩
  have hE1 := hE.below hb1
  have Hv1 := Lib.hid (h.below hb1)
  clear h
  go_wp2_with fail
  refine (long_any _ l _ Hv1.out).mono ?_
  rintro e w2 ⟨rfl, rfl⟩
  rw [Hlong.out]
  go_wp2_with fail
  refine (label_any _ _ _ hE1 h1).mono ?_
  rintro e w2 ⟨rfl, hb2⟩
  rw [El.out, Ee.out]
  have hB2 : Below w.heap.size w w2 := hb1.trans (hb2.mono hb1.size)
  have hE2 := hE1.below hb2
  have Hv2 := Lib.hid (Hv1.out.below hb2)
  clear hb1 hb2 hE1 Hv1
  go_wp2_with fail
  refine (split_any _ _ hE2 hA).mono ?_
  rintro e w3 ⟨rfl, hb3⟩
  rw [Es.out]
  have hB3 : Below w.heap.size w w3 := hB2.trans (hb3.mono hB2.size)
  have hE3 := hE2.below hb3
  have Hv3 := Lib.hid (Hv2.out.below hb3)
  clear hB2 hb3 hE2 Hv2
  go_wp2_with fail
  refine (isLabel_any _ _ hA).mono ?_
  rintro e w4 ⟨rfl, hb4⟩
  rw [Eb.out]
  have hB4 : Below w.heap.size w w4 := hB3.trans (hb4.mono hB3.size)
  have hE4 := hE3.below hb4
  have Hv4 := Lib.hid (Hv3.out.below hb4)
  clear hB3 hb4 hE3 Hv3
  go_wp2_with fail
  refine (Tryd.strings_HasSuffix _ _ _ (by omega)).mono ?_
  rintro e w5 ⟨rfl, rfl⟩
  rw [Ef.out]
  go_wp2_with fail
  refine (pathText_any _ l _ Hv4.out hE4 hsz.out h50).mono ?_
  rintro e w6 ⟨rfl, hb6⟩
  rw [Et.out, En.out]
  have hB6 : Below w.heap.size w _ := hB4.trans (hb6.mono hB4.size)
  have hE6 := hE4.below hb6
  have Hv6 := Lib.hid (Hv4.out.below hb6)
  clear hB4 hb6 hE4 Hv4
  unfold st
  go_wp2_with fail
  go_ret
  exact ⟨by simp, hB6⟩
theorem back_no_true (k : Int) (s : ByteArray) (v : Value) (l : List ByteArray) (w : World) (h : IsStrs w v l) (hE : Env w) (h1 : s.size ≤ 1000) (Hlong : Hid (longB l = false)) (h50 : l.length ≤ 1000000) (hsz : Hid (∀ x ∈ l, x.size ≤ 1000))
    (n : Int) (hn : (n == 0) = false) (Ee : Hid (labE k s = n))
    (T : ByteArray) (hT : T.size ≤ 1000) (Et : Hid (st (ptS l) = .string T)) (En : Hid (ptE l = 0)) (Ep : Hid (ppL T = l)) (Eq : Hid (ppE T = 0)) (Ecn : Hid ((Lib.countByte T.data.toList 46 : Int) = (l.length : Int) - 1)) :
    Calls Tryd.prog 8 #[.int .i64 k, .string s, v] w fun e w' => e = .returned (.bool true) ∧ Below w.heap.size w w' := by
  have hcat : ¬ 9223372036854775807 < 1 + s.size := by omega
  go_enter Tryd.func8, Tryd.ntmps8
  go_wp2_with fail
  refine (awake_any _ hE).mono ?_
  rintro e w1 ⟨rfl, hb1⟩
  have hE1 := hE.below hb1
  have Hv1 := Lib.hid (h.below hb1)
  clear h
  go_wp2_with fail
  refine (long_any _ l _ Hv1.out).mono ?_
  rintro e w2 ⟨rfl, rfl⟩
  rw [Hlong.out]
  go_wp2_with fail
  refine (label_any _ _ _ hE1 h1).mono ?_
  rintro e w2 ⟨rfl, hb2⟩
  rw [Ee.out]
  have hB2 : Below w.heap.size w w2 := hb1.trans (hb2.mono hb1.size)
  have hE2 := hE1.below hb2
  have Hv2 := Lib.hid (Hv1.out.below hb2)
  clear hb1 hb2 hE1 Hv1
  go_wp2_with fail
  have hB4 := hB2
  have hE4 := hE2
  have Hv4 := Hv2
  clear hB2 hE2 Hv2
  refine (pathText_any _ l _ Hv4.out hE4 hsz.out h50).mono ?_
  rintro e w6 ⟨rfl, hb6⟩
  rw [Et.out, En.out]
  have hB6 : Below w.heap.size w _ := hB4.trans (hb6.mono hB4.size)
  have hE6 := hE4.below hb6
  have Hv6 := Lib.hid (Hv4.out.below hb6)
  clear hB4 hb6 hE4 Hv4
  go_wp2_with fail
  refine (parsePath_any _ _ hE6 hT).mono ?_
  rintro e w7 ⟨p, rfl, hp, hb7⟩
  rw [Eq.out]
  rw [Ep.out] at hp
  have Hp7 := Lib.hid hp
  clear hp
  have hB7 : Below w.heap.size w w7 := hB6.trans (hb7.mono hB6.size)
  have Hv7 := Lib.hid (Hv6.out.below hb7)
  clear hB6 hb7 Hv6
  go_wp2_with fail
  refine (equal_any _ _ _ _ _ Hp7.out Hv7.out h50 h50).mono ?_
  rintro e w8 ⟨rfl, hb8⟩
  have hB8 : Below w.heap.size w w8 := hB7.trans (hb8.mono hB7.size)
  have Hv8 := Lib.hid (Hv7.out.below hb8)
  clear hB7 hb8 Hv7
  simp only [decide_true]
  obtain ⟨va, vc, rfl, _, _⟩ := Hv8.out
  go_wp2_with fail
  refine (Tryd.strings_Count_one _ _ _).mono ?_
  rintro e w9 ⟨rfl, rfl⟩
  rw [Ecn.out]
  go_wp2_with fail
  go_ret
  exact ⟨by simp, hB8⟩
theorem back_no_false (k : Int) (s : ByteArray) (v : Value) (l : List ByteArray) (w : World) (h : IsStrs w v l) (hE : Env w) (h1 : s.size ≤ 1000) (Hlong : Hid (longB l = false)) (h50 : l.length ≤ 1000000) (hsz : Hid (∀ x ∈ l, x.size ≤ 1000))
    (n : Int) (hn : (n == 0) = false) (Ee : Hid (labE k s = n))
    (Et : Hid (ptS l = [])) (En : Hid (ptE l = 1)) :
    Calls Tryd.prog 8 #[.int .i64 k, .string s, v] w fun e w' => e = .returned (.bool true) ∧ Below w.heap.size w w' := by
  have hcat : ¬ 9223372036854775807 < 1 + s.size := by omega
  go_enter Tryd.func8, Tryd.ntmps8
  go_wp2_with fail
  refine (awake_any _ hE).mono ?_
  rintro e w1 ⟨rfl, hb1⟩
  have hE1 := hE.below hb1
  have Hv1 := Lib.hid (h.below hb1)
  clear h
  go_wp2_with fail
  refine (long_any _ l _ Hv1.out).mono ?_
  rintro e w2 ⟨rfl, rfl⟩
  rw [Hlong.out]
  go_wp2_with fail
  refine (label_any _ _ _ hE1 h1).mono ?_
  rintro e w2 ⟨rfl, hb2⟩
  rw [Ee.out]
  have hB2 : Below w.heap.size w w2 := hb1.trans (hb2.mono hb1.size)
  have hE2 := hE1.below hb2
  have Hv2 := Lib.hid (Hv1.out.below hb2)
  clear hb1 hb2 hE1 Hv1
  go_wp2_with fail
  have hB4 := hB2
  have hE4 := hE2
  have Hv4 := Hv2
  clear hB2 hE2 Hv2
  refine (pathText_any _ l _ Hv4.out hE4 hsz.out h50).mono ?_
  rintro e w6 ⟨rfl, hb6⟩
  rw [Et.out, En.out]
  have hB6 : Below w.heap.size w _ := hB4.trans (hb6.mono hB4.size)
  have hE6 := hE4.below hb6
  have Hv6 := Lib.hid (Hv4.out.below hb6)
  clear hB4 hb6 hE4 Hv4
  unfold st
  go_wp2_with fail
  go_ret
  exact ⟨by simp, hB6⟩

theorem identBack_walk (k : Int) (s : ByteArray) (v : Value) (l : List ByteArray) (w : World) (h : IsStrs w v l) (hE : Env w) :
    Calls Tryd.prog 8 #[.int .i64 k, .string s, v] w fun e w' => e = .returned (.bool true) ∧ Below w.heap.size w w' := by
  by_cases h1 : s.size ≤ 1000
  · cases hl : longB l
    · obtain ⟨h50, hsz⟩ := long_small l hl
      have hsz2 : ∀ x ∈ l, x.size ≤ 1000 := fun x hx => by have := hsz x hx; omega
      have hpath : (pathB l = true ∧ st (ptS l) = .string (txtA l) ∧ ptE l = 0) ∨ (ptS l = [] ∧ ptE l = 1) := by
        cases hc : pathB l
        · right; unfold ptS ptE; rw [hc]; exact ⟨rfl, rfl⟩
        · left; unfold ptS ptE; rw [hc]; exact ⟨rfl, rfl, rfl⟩
      have hlab : (1 ≤ k ∧ k ≤ 5 ∧ fitB k s = true ∧ st (labS k s) = .string (labA k s) ∧ labE k s = 0) ∨ (labE k s == 0) = false := by
        by_cases hk : k < 1 ∨ 5 < k
        · right; unfold labE; rw [if_pos (preB_no k hk)]; rfl
        · have hp := preB_some k (by omega) (by omega)
          cases hf : fitB k s
          · right; unfold labE; rw [if_neg hp, if_pos hf]; rfl
          · left
            refine ⟨by omega, by omega, rfl, ?_, ?_⟩
            · unfold labS; rw [if_neg (by simp [hp, hf])]; rfl
            · unfold labE; rw [if_neg hp, if_neg (by simp [hf])]
      have hce : ∀ hc : pathB l = true, ppL (txtA l) = l ∧ ppE (txtA l) = 0 ∧ (Lib.countByte (txtA l).data.toList 46 : Int) = (l.length : Int) - 1 := fun hc => by
        have hb := txt_back l hc
        refine ⟨?_, ?_, ?_⟩
        · unfold ppL; rw [hb, hc]; rfl
        · unfold ppE; rw [hb, hc]; rfl
        · have : (txtA l).data.toList = joinD l := by simp [txtA]
          rw [this]; exact txt_count l hc
      rcases hlab with ⟨hk1, hk5, hf, hs, he⟩ | he
      · have hA : (labA k s).size ≤ 1000 := by have := labA_size k s hf; omega
        rcases hpath with ⟨hc, ht, hn⟩ | ⟨ht, hn⟩
        · obtain ⟨c1, c2, c3⟩ := hce hc
          exact back_ok_true k s v l w h hE h1 hl (by omega) hsz2 _ hA hs he (lab_split k s hk1 hk5 hf) (lab_lab k s hf) (lab_suffix k s hk1 hk5) _ (txt_size l hc) ht hn c1 c2 c3
        · exact back_ok_false k s v l w h hE h1 hl (by omega) hsz2 _ hA hs he (lab_split k s hk1 hk5 hf) (lab_lab k s hf) (lab_suffix k s hk1 hk5) ht hn
      · rcases hpath with ⟨hc, ht, hn⟩ | ⟨ht, hn⟩
        · obtain ⟨c1, c2, c3⟩ := hce hc
          exact back_no_true k s v l w h hE h1 hl (by omega) hsz2 _ he rfl _ (txt_size l hc) ht hn c1 c2 c3
        · exact back_no_false k s v l w h hE h1 hl (by omega) hsz2 _ he rfl ht hn
    · have Hl := Lib.hid hl
      clear hl
      go_enter Tryd.func8, Tryd.ntmps8
      go_wp2_with fail
      refine (awake_any _ hE).mono ?_
      rintro e w1 ⟨rfl, hb1⟩
      have hE1 := hE.below hb1
      go_wp2_with fail
      refine (long_any _ l _ (h.below hb1)).mono ?_
      rintro e w2 ⟨rfl, rfl⟩
      rw [Hl.out]
      go_wp2_with fail
      refine (awake_any _ hE1).mono ?_
      rintro e w2 ⟨rfl, hb2⟩
      have hB2 : Below w.heap.size w w2 := hb1.trans (hb2.mono hb1.size)
      go_wp2_with fail
      go_ret
      exact ⟨rfl, hB2⟩
  · go_enter Tryd.func8, Tryd.ntmps8
    go_wp2_with fail
    refine (awake_any _ hE).mono ?_
    rintro e w1 ⟨rfl, hb1⟩
    have hE1 := hE.below hb1
    go_wp2_with fail
    refine (awake_any _ hE1).mono ?_
    rintro e w2 ⟨rfl, hb2⟩
    have hB2 : Below w.heap.size w w2 := hb1.trans (hb2.mono hb1.size)
    go_wp2_with fail
    go_ret
    exact ⟨rfl, hB2⟩
end Go.Proofs.YtbjjimfdbbhjgaaDoor
