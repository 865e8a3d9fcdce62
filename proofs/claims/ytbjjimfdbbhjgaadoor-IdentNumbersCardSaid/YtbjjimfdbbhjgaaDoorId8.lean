/- IsVar and IsLabel of ident, the reference's IsVar; Ascending; long; slices.Index. -/
import Derived.Test.YtbjjimfdbbhjgaaDoorId7
namespace Go.Proofs.YtbjjimfdbbhjgaaDoor
open Go Go.RowKit

theorem dots_getD (s : ByteArray) (k : Nat) (h : k < s.size) : dots ((bs s).take (k + 1)) = (dots ((bs s).take k) && (innB ((bs s).getD k 0).toNat || (((bs s).getD k 0).toNat == 46))) := by
  rw [dots_take s k h]; simp [bs, ByteArray.getElem_eq_getElem_data, h]
theorem dots_falseD (s : ByteArray) (k : Nat) (h : k < s.size) (hf : (innB ((bs s).getD k 0).toNat || (((bs s).getD k 0).toNat == 46)) = false) : dots (bs s) = false := by
  have e : (bs s).getD k 0 = s[k] := by simp [bs, ByteArray.getElem_eq_getElem_data, h]
  rw [e, Bool.or_eq_false_iff] at hf
  exact dots_false s k h hf.1 hf.2
theorem cls_dot (n : Nat) : (innB n || (n == 46)) = !(cls n == 0) := by
  rw [show (n == 46) = decide ((n : Int) = 46) by rw [Bool.eq_iff_iff, beq_iff_eq, decide_eq_true_iff]; omega]
  unfold innB smallB capB digB cls
  by_cases a : 97 ≤ (n : Int) ∧ (n : Int) ≤ 122 <;> by_cases b : 65 ≤ (n : Int) ∧ (n : Int) ≤ 90 <;> by_cases d : 48 ≤ (n : Int) ∧ (n : Int) ≤ 57 <;> by_cases e : (n : Int) = 95 <;> by_cases f : (n : Int) = 46 <;> simp [a, b, d, e, f] <;> omega

theorem varB_eq (l : List UInt8) : varB l = (Lib.hasPrefix l [39] && decide (l.length ≤ 24) && nmB (l.drop 1) 1) := by
  rw [nm1]
  unfold varB wordB Lib.hasPrefix
  cases l with
  | nil => rfl
  | cons b l =>
    have e : (b.toNat == 39) = (39 == b) := by
      rw [Bool.eq_iff_iff, beq_iff_eq, beq_iff_eq]
      constructor
      · intro h; exact (UInt8.toNat_inj.1 h).symm
      · intro h; rw [← h]; rfl
    simp only [List.headD_cons, List.drop_succ_cons, List.drop_zero, e, List.isPrefixOf]
    rw [Bool.eq_iff_iff]
    simp only [Bool.and_eq_true, decide_eq_true_eq, List.length_cons, Bool.and_true]
    constructor
    · rintro ⟨⟨⟨⟨a, c⟩, d⟩, e⟩, f⟩; exact ⟨⟨d, c⟩, ⟨⟨⟨by omega, by omega⟩, f⟩, e⟩⟩
    · rintro ⟨⟨d, c⟩, ⟨⟨⟨a, _⟩, f⟩, e⟩⟩; exact ⟨⟨⟨⟨by omega, c⟩, d⟩, e⟩, f⟩

theorem isLabel_any (s : ByteArray) (w : World) (hs : s.size ≤ 1000) :
    Calls Tryd.prog 22 #[.string s] w fun e w' => e = .returned (.bool (labB (bs s))) ∧ Below w.heap.size w w' := by
  by_cases h0 : s.size = 0
  · have hn := tl_nil s h0
    go_enter Tryd.func22, Tryd.ntmps22
    go_wp2_with fail
    go_ret
    exact ⟨ret_bool (by simp [labB, bs_length, h0]), Below.refl _ _⟩
  · have hn := tl_ne s h0
    have hn2 := tl_ne2 s h0
    by_cases h48 : 48 < s.size
    · go_enter Tryd.func22, Tryd.ntmps22
      go_wp2_with fail
      go_ret
      exact ⟨ret_bool (by simp [labB, bs_length]; omega), Below.refl _ _⟩
    · have hcv : ∀ u : World, (convert 9 57 (.string s)).run Tryd.prog u = .ok (.slice (some ⟨u.heap.size, 0, none⟩) s.size (grownCap u s.size 0 5)) (Lib.bytesWorld u 5 s) := fun u => Lib.run_convert_string_bytes u _ _ _ s Tryd.underlying9 Tryd.underlying57 Tryd.underlying5
      go_enter Tryd.func22, Tryd.ntmps22
      go_wp2_with fail
      have hc : ∀ j : Nat, j < s.size → (Lib.bytesWorld w 5 s).cell? ⟨w.heap.size, j, none⟩ = some (.int .u8 ((bs s).getD j 0).toNat) := fun j hj => Lib.bytesWorld_cell w _ s j hj
      have Hb := below_bytes 5 s (Below.refl w.heap.size w) (Nat.le_refl _)
      generalize Lib.bytesWorld w 5 s = W1 at *
      have Hc := Lib.hid hc
      clear hc hcv
      go_loop [15] (fun i => ∃ k : Nat, k ≤ s.size ∧ i = .int .i64 k ∧ Hid (dots ((bs s).take k) = true)) (fun i => s.size - (intOf i).toNat)
      case atStart => exact ⟨0, Nat.zero_le _, rfl, rfl⟩
      case round =>
        obtain ⟨j, hj, rfl, hin⟩ := hrel
        by_cases hlt : j < s.size
        · have hc := Hc.out j hlt
          have hnx := dots_getD s j hlt
          have hfx := dots_falseD s j hlt
          generalize (bs s).getD j 0 = x at *
          have Hnx := Lib.hid hnx
          have Hfx := Lib.hid hfx
          clear hnx hfx
          obtain ⟨v0, v1⟩ := ub x
          have ec := cls_dot x.toNat
          cases hcx : (cls x.toNat == 0) with
          | true =>
            have Hcx := Lib.hid (ec.trans (by rw [hcx]))
            clear ec
            go_wp2_with fail
            refine (of_any _ _ (by assumption) (by assumption)).mono ?_
            rintro e w' ⟨rfl, rfl⟩
            go_wp2_with fail
            go_ret
            exact ⟨ret_bool (by unfold labB; rw [Hfx.out Hcx.out]; rfl), Hb⟩
          | false =>
            have Hcx := Lib.hid (ec.trans (by rw [hcx]))
            clear ec
            go_wp2_with fail
            refine (of_any _ _ (by assumption) (by assumption)).mono ?_
            rintro e w' ⟨rfl, rfl⟩
            go_wp2_with fail
            go_round
            case rel => exact ⟨j + 1, by omega, by go_num, by show _ = _; rw [Hnx.out, hin.out, Hcx.out]; rfl⟩
            case measure => simp [intOf]; omega
        · go_wp2
          go_ret
          have hin' := hin.out
          rw [List.take_of_length_le (by rw [bs_length]; omega)] at hin'
          refine ⟨ret_bool ?_, Hb⟩
          unfold labB; rw [hin']; simp [bs_length]; omega

theorem ext_sz (s : ByteArray) (n : Nat) (hs : s.size ≤ 1000) : (s.extract n s.size).size ≤ 1000 := by simp; omega
theorem bs_ext (s : ByteArray) (n : Nat) : bs (s.extract n s.size) = (bs s).drop n := by rw [drop_ext]; simp [bs]
theorem bs_snd (s : ByteArray) (h : 1 < s.size) : ((bs s).drop 1).headD 0 = s[1] := by
  rw [← bs_ext, bs_head _ (by simp; omega)]
  simp [ByteArray.getElem_eq_getElem_data]

set_option maxRecDepth 100000 in
theorem rIsVar_any (s : ByteArray) (w : World) (hs : s.size ≤ 1000) :
    Calls Tryd.prog 21 #[.string s] w fun e w' => e = .returned (.bool (varB (bs s))) ∧ w = w' := by
  by_cases h2 : 2 ≤ s.size
  · have h1 : 0 < s.size := by omega
    have h3 : 1 < s.size := by omega
    have hd1 := Lib.hid (bs_head s h1)
    have hd2 := Lib.hid (bs_snd s h3)
    by_cases h24 : s.size ≤ 24
    · obtain ⟨u0, u1⟩ := ub s[0]
      obtain ⟨v0, v1⟩ := ub s[1]
      by_cases hq : (s[0].toNat : Int) = 39
      · have hq' : ((s[0].toNat : Int) == 39) = true := by rw [hq]; rfl
        have hz := ext_sz s 1 hs
        have Hq := Lib.hid hq
        clear hq
        go_enter Tryd.func21, Tryd.ntmps21
        go_wp2_with fail
        refine (small_any _ _ (by assumption) (by assumption)).mono ?_
        rintro e w' ⟨rfl, rfl⟩
        obtain ⟨bb, hbb⟩ : ∃ bb, smallB s[1].toNat = bb := ⟨_, rfl⟩
        have Hbb := Lib.hid hbb
        rw [hbb]
        clear hbb
        cases bb
        · go_wp2_with fail
          go_ret
          refine ⟨ret_bool ?_, rfl⟩
          unfold varB
          rw [hd2.out, Hbb.out]
          simp
        · go_wp2_with fail
          refine (inner_any _ _ hz).mono ?_
          rintro e w' ⟨rfl, rfl⟩
          go_wp2_with fail
          go_ret
          refine ⟨ret_bool ?_, rfl⟩
          unfold varB
          rw [hd2.out, Hbb.out, hd1.out, bs_length, ← bs_ext]
          have : (s[0].toNat == 39) = true := by rw [beq_iff_eq]; have := Hq.out; omega
          rw [this]
          simp [h2, h24]
      · have hq' : ((s[0].toNat : Int) == 39) = false := by simpa using hq
        have Hq := Lib.hid hq
        clear hq
        go_enter Tryd.func21, Tryd.ntmps21
        go_wp2_with fail
        go_ret
        refine ⟨ret_bool ?_, rfl⟩
        unfold varB
        have : (s[0].toNat == 39) = false := by rw [beq_eq_false_iff_ne]; have := Hq.out; omega
        rw [hd1.out, this]
        simp
    · go_enter Tryd.func21, Tryd.ntmps21
      go_wp2_with fail
      go_ret
      exact ⟨ret_bool (by unfold varB; rw [bs_length]; simp; omega), rfl⟩
  · go_enter Tryd.func21, Tryd.ntmps21
    go_wp2_with fail
    go_ret
    exact ⟨ret_bool (by unfold varB; rw [bs_length]; simp; omega), rfl⟩

theorem isVar_any (s : ByteArray) (w : World) (hs : s.size ≤ 1000) :
    Calls Tryd.prog 20 #[.string s] w fun e w' => e = .returned (.bool (varB (bs s))) ∧ Below w.heap.size w w' := by
  obtain ⟨bb, hbb⟩ : ∃ bb, Lib.hasPrefix (bs s) [39] = bb := ⟨_, rfl⟩
  have hv : varB (bs s) = (bb && decide ((bs s).length ≤ 24) && nmB ((bs s).drop 1) 1) := by rw [← hbb]; exact varB_eq (bs s)
  rw [hv, bs_length]
  have H := Tryd.strings_CutPrefix s ⟨#[39]⟩ w
  have e1 : (ByteArray.mk #[39]).data.toList = [39] := rfl
  have e2 : Lib.trimPrefix (bs s) [39] = if bb then (bs s).drop 1 else bs s := by rw [← hbb]; rfl
  rw [e1] at H
  change Calls _ _ _ _ (fun e w' => e = .returned (.tuple #[.string ⟨(Lib.trimPrefix (bs s) [39]).toArray⟩, .bool (Lib.hasPrefix (bs s) [39])]) ∧ w' = w) at H
  rw [e2, hbb] at H
  have HH := Lib.hid H
  clear H e2 e1 hv hbb
  cases bb
  · go_enter Tryd.func20, Tryd.ntmps20
    go_wp2_with fail
    refine HH.out.mono ?_
    rintro e w' ⟨rfl, rfl⟩
    go_wp2_with fail
    go_ret
    exact ⟨rfl, Below.refl _ _⟩
  · by_cases h24 : s.size ≤ 24
    · have hz : (ByteArray.mk ((bs s).drop 1).toArray).size ≤ 1000 := by rw [← drop_ext]; exact ext_sz s 1 hs
      go_enter Tryd.func20, Tryd.ntmps20
      go_wp2_with fail
      refine HH.out.mono ?_
      rintro e w' ⟨rfl, rfl⟩
      simp only [if_true]
      generalize hr : (ByteArray.mk ((bs s).drop 1).toArray) = r at hz ⊢
      have Hr := Lib.hid hr
      clear hr
      go_wp2_with fail
      refine (name_any _ _ _ hz).mono ?_
      rintro e w' ⟨rfl, hb⟩
      go_wp2_with fail
      go_ret
      refine ⟨ret_bool ?_, hb⟩
      have : bs r = (bs s).drop 1 := by rw [← Hr.out]; simp [bs]
      rw [this]
      simp [h24]
    · go_enter Tryd.func20, Tryd.ntmps20
      go_wp2_with fail
      refine HH.out.mono ?_
      rintro e w' ⟨rfl, rfl⟩
      go_wp2_with fail
      go_ret
      exact ⟨ret_bool (by simp), Below.refl _ _⟩
end Go.Proofs.YtbjjimfdbbhjgaaDoor
