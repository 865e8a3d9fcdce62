/- The reference's number: the number that is written in decimal. Split at one byte; the program's number. -/
import Derived.Test.YtidffjlpldalpaaGreatDoorT20
import Derived.Test.YtidffjlpldalpaaGreatDoorT17
import Derived.Test.YtidffjlpldalpaaGreatDoorT19
import Derived.Lib.SplitLaws
set_option linter.unusedVariables false
set_option linter.unusedSimpArgs false
namespace Go.Proofs.YtidffjlpldalpaaGreatDoor
open Go Go.RowKit

theorem nDigits_le : ∀ (k u : Nat), u < 10 ^ (k + 1) → Lib.nDigits u ≤ k + 1
  | 0, u, h => by rw [Lib.nDigits_small (by simpa using h)]; omega
  | k + 1, u, h => by
    by_cases h10 : u < 10
    · rw [Lib.nDigits_small h10]; omega
    · rw [Lib.nDigits_big h10]
      have := nDigits_le k (u / 10) (by rw [Nat.pow_succ] at h; omega)
      omega
theorem nat_long {l : List UInt8} (h : 17 < l.length) : natU l = none := by
  cases hn : natU l with
  | none => rfl
  | some u =>
    exfalso
    obtain ⟨h1, h2, h3, h4, h5⟩ := natU_inv hn
    have e := dec_of l h1 h2 h3
    have hl : l.length = Lib.nDigits u := by rw [e, h4, Lib.decDigits_length]
    have := nDigits_le 16 u (by have : (4503599627370496 : Nat) < 10 ^ 17 := by decide
                                omega)
    omega
theorem nat_zero {l : List UInt8} (h : 1 < l.length) (h0 : l.headD 0 = 48) : natU l = none := by
  unfold natU
  split
  · rfl
  · split
    · rfl
    · rw [if_pos ⟨h, h0⟩]
theorem nat_bad {l : List UInt8} {c : UInt8} (hc : c ∈ l) (h : digU c = false) : natU l = none := by
  unfold natU
  split
  · rfl
  · rw [if_pos (List.all_eq_false.2 ⟨c, hc, by simp [h]⟩)]
theorem nat_good {l : List UInt8} (h : l ≠ []) (hd : l.all digU = true) (hz : ¬ (1 < l.length ∧ l.headD 0 = 48)) : natU l = if valU l ≤ 4503599627370496 then some (valU l) else none := by
  unfold natU
  rw [if_neg h, if_neg (by simp [hd]), if_neg hz]
theorem int_plus {l : List UInt8} (h : l.headD 0 ≠ 45) : intU l = Option.map (fun u : Nat => (u : Int)) (natU l) := by
  cases l with
  | nil => rfl
  | cons c r =>
    have hc : ¬ c = 45 := h
    simp only [intU, hc, if_false]
    cases natU (c :: r) <;> rfl
theorem int_minus {r : List UInt8} {n : Int} {ok : Bool} (h : intU r = if ok = true then some n else none) : intU (45 :: r) = if (ok && decide (0 < n)) = true then some (-n) else none := by
  have e : intU (45 :: r) = match natU r with | some n => if n = 0 then none else some (-(n : Int)) | none => none := rfl
  rw [e]
  by_cases h45 : r.headD 0 = 45
  · cases r with
    | nil => exact absurd h45 (by decide)
    | cons c q =>
      obtain rfl : c = 45 := h45
      have hb : natU (45 :: q) = none := nat_bad (c := 45) (by simp) (by decide)
      rw [hb]
      cases ok with
      | false => rfl
      | true =>
        have e2 : intU (45 :: q) = match natU q with | some n => if n = 0 then none else some (-(n : Int)) | none => none := rfl
        rw [e2] at h
        simp only [if_true] at h
        cases hq : natU q with
        | none => rw [hq] at h; cases h
        | some u =>
          rw [hq] at h
          simp only at h
          split at h
          · cases h
          · cases h; rw [if_neg (by simp)]
  · rw [int_plus h45] at h
    cases hr : natU r with
    | none =>
      rw [hr] at h
      cases ok with
      | false => rfl
      | true => cases h
    | some u =>
      rw [hr] at h
      cases ok with
      | false => cases h
      | true =>
        cases h
        simp only [Bool.true_and, decide_eq_true_eq]
        by_cases h0 : u = 0
        · subst h0; rfl
        · rw [if_neg h0, if_pos (by omega)]
theorem digU_of (c : UInt8) : digU c = (decide (48 ≤ (c.toNat : Int)) && decide ((c.toNat : Int) ≤ 57)) := by
  unfold digU
  congr 1
  · exact decide_eq_decide.2 ⟨fun h => by omega, fun h => by omega⟩
  · exact decide_eq_decide.2 ⟨fun h => by omega, fun h => by omega⟩
def NumR (s : ByteArray) (w : World) (e : Ending) (w' : World) : Prop :=
  ∃ (n : Int) (ok : Bool), e = .returned (.tuple #[.int .i64 n, .bool ok]) ∧ w' = w ∧ intU s.data.toList = (if ok = true then some n else none) ∧ -1000000000000000000 ≤ n ∧ n ≤ 1000000000000000000
theorem drop_one (s : ByteArray) (h : 0 < s.size) : s.data.toList = s[0] :: (s.extract 1 s.size).data.toList := by
  have := drop_next s 0 h
  rw [List.drop_zero] at this
  rw [this, ByteArray.data_extract, Array.toList_extract, List.extract_eq_take_drop, List.take_of_length_le (by rw [List.length_drop, data_len]; omega)]
set_option maxHeartbeats 2000000 in
set_option maxRecDepth 100000 in
theorem rnumber_plus (s : ByteArray) (w : World) (hs : s.size ≤ 1000000) (h0 : 0 < s.size) (h45 : s[0] ≠ 45) :
    Calls Tryz.prog 70 #[.string s] w (NumR s w) := by
  have h0' : ¬ s.size = 0 := by omega
  have hn := tl_ne s h0'
  have hn2 := tl_ne2 s h0'
  have hh := head_get s h0
  obtain ⟨u0, u1⟩ := ub s[0]
  have e45 : ((s[0].toNat : Int) == 45) = false := u8_ne s[0] 45 (by decide) h45
  have HI := Lib.hid (int_plus (l := s.data.toList) (by rw [hh]; exact h45))
  have hlen := data_len s
  by_cases hA : s[0] = 48 ∧ 1 < s.size
  · obtain ⟨h48, h1⟩ := hA
    have q48 : (s[0].toNat : Int) = 48 := by rw [h48]; rfl
    have HE : Hid (intU s.data.toList = none) := by show _ = _; rw [HI.out, nat_zero (by rw [hlen]; exact h1) (by rw [hh]; exact h48)]; rfl
    clear HI hlen hh
    go_enter Tryz.func70, Tryz.ntmps70
    go_wp2_with fail
    go_ret2
    exact ⟨_, _, rfl, rfl, HE.out, by decide, by decide⟩
  · have hK : (((s[0].toNat : Int) == 48) = true ∧ s.size = 1) ∨ ((s[0].toNat : Int) == 48) = false := by
      by_cases h48 : s[0] = 48
      · exact .inl ⟨by rw [h48]; rfl, by have : ¬ 1 < s.size := fun h => hA ⟨h48, h⟩
                                         omega⟩
      · exact .inr (u8_ne s[0] 48 (by decide) h48)
    have hz : ¬ (1 < s.data.toList.length ∧ s.data.toList.headD 0 = 48) := by rw [hlen, hh]; exact fun h => hA ⟨h.2, h.1⟩
    by_cases h17 : 17 < s.size
    · have HE : Hid (intU s.data.toList = none) := by show _ = _; rw [HI.out, nat_long (by rw [hlen]; exact h17)]; rfl
      clear HI hlen hh hz
      rcases hK with ⟨q48, _⟩ | e48
      · omega
      · go_enter Tryz.func70, Tryz.ntmps70
        go_wp2_with fail
        go_ret2
        exact ⟨_, _, rfl, rfl, HE.out, by decide, by decide⟩
    · have Hz := Lib.hid hz
      have Hl := Lib.hid hlen
      clear hz hlen hh hA
      rcases hK with ⟨e48, q1⟩ | e48
      all_goals
        go_enter Tryz.func70, Tryz.ntmps70
        go_wp2_with fail
        go_loopw [6, 7] (fun o i wr => ∃ k m : Nat, k ≤ s.size ∧ i = .int .i64 k ∧ o = .int .i64 m ∧ m < 10 ^ k ∧ Hid (valU (s.data.toList.take k) = m ∧ (s.data.toList.take k).all digU = true) ∧ wr = w) (fun o i _ => s.size - (intOf i).toNat)
        case atStart => exact ⟨0, 0, Nat.zero_le _, rfl, rfl, by decide, ⟨rfl, rfl⟩, rfl⟩
        case round =>
          obtain ⟨k, m, hk, rfl, rfl, hm, HM, rfl⟩ := hrel
          rename World => V
          have hp : 10 ^ k ≤ 10 ^ 17 := Nat.pow_le_pow_right (by decide) (by omega)
          have hp' : (10 : Nat) ^ 17 = 100000000000000000 := by decide
          have hm1 : m < 100000000000000000 := by omega
          by_cases hlt : k < s.size
          · obtain ⟨v0, v1⟩ := ub s[k]
            have hT := take_next s k hlt
            by_cases hd : digU s[k] = true
            · have hd2 := hd
              rw [digU_of, Bool.and_eq_true, decide_eq_true_eq, decide_eq_true_eq] at hd2
              obtain ⟨d0, d1⟩ := hd2
              have hs8 : IntKind.u8.wrap ((s[k].toNat : Int) - 48) = (s[k].toNat : Int) - 48 := by rw [IntKind.wrap_u8]; omega
              have hs9 : IntKind.i64.wrap ((s[k].toNat : Int) - 48) = (s[k].toNat : Int) - 48 := by rw [IntKind.wrap_i64]; omega
              have hpn : m * 10 + (s[k].toNat - 48) < 10 ^ (k + 1) := by rw [Nat.pow_succ]; omega
              have HN : Hid (valU (s.data.toList.take (k + 1)) = m * 10 + (s[k].toNat - 48) ∧ (s.data.toList.take (k + 1)).all digU = true) := by
                show _ ∧ _
                rw [hT, valU_snoc, HM.out.1, List.all_append, HM.out.2]
                exact ⟨rfl, by simp [hd]⟩
              clear hT HM hd hm hp hp'
              go_wp2_with fail
              go_round
              case rel => exact ⟨k + 1, m * 10 + (s[k].toNat - 48), by omega, by go_num, by congr 1; omega, hpn, HN, trivial⟩
              case measure => simp [intOf]; omega
            · have hd' : digU s[k] = false := by simpa using hd
              have HE : Hid (intU s.data.toList = none) := by show _ = _; rw [HI.out, nat_bad (c := s[k]) (by rw [← List.take_append_drop (k + 1) s.data.toList, hT]; simp) hd']; rfl
              rw [digU_of] at hd'
              clear hT HM hd hm hp hp'
              by_cases x1 : (s[k].toNat : Int) < 48
              · go_wp2_with fail
                go_ret2
                exact ⟨_, _, rfl, rfl, HE.out, by decide, by decide⟩
              · have x2 : 57 < (s[k].toNat : Int) := by
                  simp only [Bool.and_eq_false_iff, decide_eq_false_iff_not] at hd'
                  omega
                go_wp2_with fail
                go_ret2
                exact ⟨_, _, rfl, rfl, HE.out, by decide, by decide⟩
          · obtain rfl : k = s.size := by omega
            have ht : s.data.toList.take s.size = s.data.toList := List.take_of_length_le (by rw [Hl.out]; exact Nat.le_refl _)
            have hM := HM.out
            rw [ht] at hM
            have HE : Hid (intU s.data.toList = if (decide ((m : Int) ≤ 4503599627370496)) = true then some (m : Int) else none) := by
              show _ = _
              rw [HI.out, nat_good (List.ne_nil_of_length_pos (by rw [Hl.out]; exact h0)) hM.2 Hz.out, hM.1]
              by_cases hle : m ≤ 4503599627370496
              · rw [if_pos hle, if_pos (by simp; omega)]; rfl
              · rw [if_neg hle, if_neg (by simp; omega)]; rfl
            clear ht HM hM HI
            go_wp2_with fail
            go_ret2
            exact ⟨_, _, rfl, rfl, HE.out, by omega, by omega⟩
set_option maxHeartbeats 2000000 in
set_option maxRecDepth 100000 in
theorem rnumber_any (f : Nat) (hf : f ≤ 1000000) : ∀ (s : ByteArray) (w : World), s.size ≤ f →
    Calls Tryz.prog 70 #[.string s] w (NumR s w) := by
  induction f with
  | zero =>
    intro s w hs
    have h0 : s.size = 0 := by omega
    have hn := tl_nil s h0
    have hnil : s.data.toList = [] := List.length_eq_zero_iff.1 (by rw [data_len]; exact h0)
    have HE : Hid (intU s.data.toList = none) := by show _ = _; rw [hnil]; rfl
    clear hnil
    go_enter Tryz.func70, Tryz.ntmps70
    go_wp2_with fail
    go_ret2
    exact ⟨_, _, rfl, rfl, HE.out, by decide, by decide⟩
  | succ f ih =>
    intro s w hs
    by_cases hz : s.size = 0
    · exact ih (by omega) s w (by omega)
    have h0 : 0 < s.size := by omega
    by_cases h45 : s[0] = 45
    · have q45 : (s[0].toNat : Int) = 45 := by rw [h45]; rfl
      have hn := tl_ne s hz
      have hn2 := tl_ne2 s hz
      have hd := drop_one s h0
      have hez : (s.extract 1 s.size).size = s.size - 1 := by simp
      have HN := Lib.hid (ih (by omega) (s.extract 1 s.size) w (by omega))
      rw [h45] at hd
      have Hd := Lib.hid hd
      clear hd ih hez hz
      go_enter Tryz.func70, Tryz.ntmps70
      go_wp2_with fail
      refine HN.out.mono ?_
      rintro e w1 ⟨n, ok, rfl, rfl, hi, b0, b1⟩
      have HI := Lib.hid (int_minus hi)
      rw [← Hd.out] at HI
      clear hi HN Hd
      cases ok
      all_goals
        go_wp2_with fail
        go_ret2
        exact ⟨_, _, rfl, rfl, HI.out, by omega, by omega⟩
    · exact rnumber_plus s w (by omega) h0 h45

/-- The pieces of a string between the bytes c. -/
def spB (c : UInt8) (s : ByteArray) : List ByteArray := Lib.splitB ⟨#[c]⟩ 0 (Lib.countB s ⟨#[c]⟩) s
theorem spB_data (c : UInt8) (s : ByteArray) : (spB c s).map (fun x => x.data.toList) = spl c s.data.toList := by
  unfold spB
  rw [Lib.splitB_data]
  have : Lib.countB s ⟨#[c]⟩ = s.data.toList.count c := Lib.count_one c _
  rw [this]
  exact splitK_spl c _ _ rfl
theorem spB_length (c : UInt8) (s : ByteArray) : (spB c s).length = Lib.countB s ⟨#[c]⟩ + 1 := Lib.splitB_all ⟨#[c]⟩ (by exact Nat.le_refl 1) 0 _ s rfl
theorem spB_small (c : UInt8) (s : ByteArray) (N : Nat) (h : s.size ≤ N) : ∀ x ∈ spB c s, x.size ≤ N := splitB_small _ N _ s h
theorem spB_le (c : UInt8) (s : ByteArray) : (spB c s).length ≤ s.size + 1 := by
  rw [spB_length]
  have := Lib.countB_le ⟨#[c]⟩ (by exact Nat.le_refl 1) s.size s (Nat.le_refl _)
  omega
theorem split_any (c : UInt8) (s : ByteArray) (w : World) (hE : EnvN w) (hs : s.size ≤ 1000000) :
    Calls Tryz.prog 62 #[.string s, .string ⟨#[c]⟩] w fun e w' => e = .returned (.slice (some ⟨w.heap.size, 0, none⟩) (spB c s).length (spB c s).length) ∧ IsTexts w' (.slice (some ⟨w.heap.size, 0, none⟩) (spB c s).length (spB c s).length) (spB c s) ∧ Below w.heap.size w w' := by
  obtain ⟨m, hm⟩ := hE.ml
  refine (Tryz.strings_Split s ⟨#[c]⟩ m w (by omega) hm (by exact Nat.le_refl 1)).mono ?_
  rintro e w' ⟨rfl, rfl⟩
  rw [← spB_length]
  refine ⟨rfl, ?_, (Below.refl _ _).alloc (Nat.le_refl _) _⟩
  exact isRow_alloc' w w.heap.size (spB c s).length (strCells (spB c s)) 9 rfl
def NumAns (l : List UInt8) (w : World) (e : Ending) (w' : World) : Prop := (∃ (n : Int) (ok : Bool), e = .returned (.tuple #[.int .i64 n, .bool ok]) ∧ intU l = if ok = true then some n else none) ∧ Below w.heap.size w w'
theorem intU_cons (c : UInt8) (r : List UInt8) : intU (c :: r) = if c = 45 then (match natU r with | some n => if n = 0 then none else some (-(n : Int)) | none => none) else (match natU (c :: r) with | some n => some (n : Int) | none => none) := rfl
theorem minus_or (l : List UInt8) : (∃ r, l = 45 :: r) ∨ (Lib.hasPrefix l [45] = false ∧ intU l = match natU l with | some u => some (u : Int) | none => none) := by
  cases l with
  | nil => right; exact ⟨rfl, rfl⟩
  | cons c r =>
    by_cases h : c = 45
    · left; exact ⟨r, by rw [h]⟩
    · right
      refine ⟨?_, ?_⟩
      · show (45 == c && _) = false; rw [beq_eq_false_iff_ne.2 (Ne.symm h)]; rfl
      · rw [intU_cons, if_neg h]
theorem bs_mk (l : List UInt8) : bs ⟨l.toArray⟩ = l := by simp [bs]
set_option maxHeartbeats 1000000 in
set_option maxRecDepth 100000 in
theorem pnumber_any (s : ByteArray) (w : World) (hE : EnvN w) (hs : s.size ≤ 1000000) :
    Calls Tryz.prog 79 #[.string s] w (NumAns s.data.toList w) := by
  have hC := Tryz.strings_CutPrefix s ⟨#[45]⟩ w
  have hsl : s.data.toList.length = s.size := Array.length_toList
  rcases minus_or s.data.toList with ⟨r, hr⟩ | ⟨h1, h2⟩
  · have e1 : Lib.hasPrefix s.data.toList (⟨#[45]⟩ : ByteArray).data.toList = true := by rw [hr]; rfl
    have e2 : Lib.trimPrefix s.data.toList (⟨#[45]⟩ : ByteArray).data.toList = r := by unfold Lib.trimPrefix; rw [if_pos e1, hr]; rfl
    rw [e1, e2] at hC
    have hsz : (⟨r.toArray⟩ : ByteArray).size ≤ 1000000 := by
      have : (⟨r.toArray⟩ : ByteArray).size = r.length := by simp [ByteArray.size]
      rw [hr] at hsl; simp at hsl; omega
    have hN := idNumber_any ⟨r.toArray⟩ w hE hsz
    rw [bs_mk] at hN
    have hI : Hid (intU s.data.toList = match natU r with | some n => if n = 0 then none else some (-(n : Int)) | none => none) := by show _ = _; rw [hr]; rfl
    have HC := Lib.hid hC
    unfold idV at hN
    clear e1 e2 hr hC hsl
    rcases idT_nat r with ⟨u, hu, hi⟩ | ⟨hu, h1, h2⟩
    · rw [hi] at hN
      have hub := (natU_inv hu).2.2.2.2
      rw [hu] at hI
      have HN := Lib.hid hN
      clear hN hu hi
      by_cases h0 : u = 0
      · subst h0
        go_enter Tryz.func79, Tryz.ntmps79
        go_wp2_with fail
        refine HC.out.mono ?_
        rintro e w1 ⟨rfl, rfl⟩
        go_wp2_with fail
        refine HN.out.mono ?_
        rintro e w1 ⟨rfl, hb⟩
        go_wp2_with fail
        go_ret2
        exact ⟨⟨_, _, rfl, hI.out⟩, hb⟩
      · have h0' : ((u : Int) == 0) = false := beq_eq_false_iff_ne.2 (by omega)
        have hI' : Hid (intU s.data.toList = some (-(u : Int))) := by show _ = _; rw [hI.out]; simp only; rw [if_neg h0]
        clear hI
        go_enter Tryz.func79, Tryz.ntmps79
        go_wp2_with fail
        refine HC.out.mono ?_
        rintro e w1 ⟨rfl, rfl⟩
        go_wp2_with fail
        refine HN.out.mono ?_
        rintro e w1 ⟨rfl, hb⟩
        go_wp2_with fail
        go_ret2
        exact ⟨⟨_, true, by simp [bne, h0'], hI'.out⟩, hb⟩
    · obtain ⟨a, b, hab⟩ : ∃ a b, idT r = (a, b) := ⟨_, _, rfl⟩
      rw [hab] at hN h1 h2
      simp only at hN h1 h2
      subst h1
      have h2' : (b == 0) = false := beq_eq_false_iff_ne.2 h2
      rw [hu] at hI
      have HN := Lib.hid hN
      clear hN hu hab
      go_enter Tryz.func79, Tryz.ntmps79
      go_wp2_with fail
      refine HC.out.mono ?_
      rintro e w1 ⟨rfl, rfl⟩
      go_wp2_with fail
      refine HN.out.mono ?_
      rintro e w1 ⟨rfl, hb⟩
      go_wp2_with fail
      go_ret2
      exact ⟨⟨_, _, rfl, hI.out⟩, hb⟩
  · have e1 : Lib.hasPrefix s.data.toList (⟨#[45]⟩ : ByteArray).data.toList = false := h1
    have e2 : Lib.trimPrefix s.data.toList (⟨#[45]⟩ : ByteArray).data.toList = s.data.toList := by unfold Lib.trimPrefix; rw [if_neg (by rw [e1]; decide)]
    rw [e1, e2] at hC
    have hN := idNumber_any s w hE hs
    have hI := Lib.hid h2
    have HC := Lib.hid hC
    unfold idV at hN
    change Hid (intU s.data.toList = match natU (bs s) with | some u => some (u : Int) | none => none) at hI
    clear e1 e2 hC hsl h1 h2
    rcases idT_nat (bs s) with ⟨u, hu, hi⟩ | ⟨hu, h1, h2⟩
    · rw [hi] at hN
      rw [hu] at hI
      have HN := Lib.hid hN
      clear hN hu hi
      go_enter Tryz.func79, Tryz.ntmps79
      go_wp2_with fail
      refine HC.out.mono ?_
      rintro e w1 ⟨rfl, rfl⟩
      go_wp2_with fail
      refine HN.out.mono ?_
      rintro e w1 ⟨rfl, hb⟩
      go_wp2_with fail
      go_ret2
      exact ⟨⟨_, _, rfl, hI.out⟩, hb⟩
    · obtain ⟨a, b, hab⟩ : ∃ a b, idT (bs s) = (a, b) := ⟨_, _, rfl⟩
      rw [hab] at hN h1 h2
      simp only at hN h1 h2
      subst h1
      have h2' : (b == 0) = false := beq_eq_false_iff_ne.2 h2
      rw [hu] at hI
      have HN := Lib.hid hN
      clear hN hu hab
      go_enter Tryz.func79, Tryz.ntmps79
      go_wp2_with fail
      refine HC.out.mono ?_
      rintro e w1 ⟨rfl, rfl⟩
      go_wp2_with fail
      refine HN.out.mono ?_
      rintro e w1 ⟨rfl, hb⟩
      go_wp2_with fail
      go_ret2
      exact ⟨⟨_, _, rfl, hI.out⟩, hb⟩
end Go.Proofs.YtidffjlpldalpaaGreatDoor
