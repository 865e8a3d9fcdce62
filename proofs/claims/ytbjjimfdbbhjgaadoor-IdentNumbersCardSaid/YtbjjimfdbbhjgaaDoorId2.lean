/- Contracts of ident.name and its like. -/
import Derived.Test.YtbjjimfdbbhjgaaDoorId1
namespace Go.Proofs.YtbjjimfdbbhjgaaDoor
open Go Go.RowKit

theorem below_bytes {B : Nat} {a w : World} (e : TypeId) (s : ByteArray) (h : Below B a w) (hB : B ≤ w.heap.size) : Below B a (Lib.bytesWorld w e s) :=
  h.trans ⟨rfl, rfl, rfl, by rw [Lib.bytesWorld_size]; omega, fun k hk => Lib.bytesWorld_at_old w e s k (by omega)⟩

theorem cls_inn (c : Int) : innB c = !(cls c == 0 || cls c == 5) := by
  unfold innB smallB capB digB cls
  by_cases a : 97 ≤ c ∧ c ≤ 122 <;> by_cases b : 65 ≤ c ∧ c ≤ 90 <;> by_cases d : 48 ≤ c ∧ c ≤ 57 <;> by_cases e : c = 95 <;> by_cases f : c = 46 <;> simp [a, b, d, e, f] <;> omega

theorem tl_nil (s : ByteArray) (h : s.size = 0) : s.toList = [] := by
  rw [Go.ByteArray.toList_eq, ← List.length_eq_zero_iff]; simpa using h
theorem tl_ne (s : ByteArray) (h : ¬ s.size = 0) : ¬ s.toList = [] := by
  rw [Go.ByteArray.toList_eq, ← List.length_eq_zero_iff]; simpa using h
theorem tl_ne2 (s : ByteArray) (h : ¬ s.size = 0) : s.toList.isEmpty = false := by
  have := tl_ne s h
  cases hl : s.toList with
  | nil => exact absurd hl this
  | cons x l => rfl
theorem innsB_getD (s : ByteArray) (k : Nat) (h : k < s.size) : innsB ((bs s).take (k + 1)) = (innsB ((bs s).take k) && innB ((bs s).getD k 0).toNat) := by
  rw [innsB_take s k h]; simp [bs, ByteArray.getElem_eq_getElem_data, h]
theorem innsB_falseD (s : ByteArray) (k : Nat) (h : k < s.size) (hf : innB ((bs s).getD k 0).toNat = false) : innsB (bs s) = false := by
  apply innsB_false s k h
  rw [← hf]; simp [bs, ByteArray.getElem_eq_getElem_data, h]
theorem bs_head (s : ByteArray) (h : 0 < s.size) : (bs s).headD 0 = s[0] := by
  have : (bs s)[0]? = some s[0] := by
    simp [bs, ByteArray.getElem_eq_getElem_data]
  cases hl : bs s with
  | nil => rw [hl] at this; simp at this
  | cons x l => rw [hl] at this; simpa using this

def nmB (l : List UInt8) (k : Int) : Bool := decide (1 ≤ l.length) && decide (l.length ≤ 24) && (cls (l.headD 0).toNat == k) && innsB l

set_option maxHeartbeats 400000 in
theorem name_any (s : ByteArray) (k : Int) (w : World) (hs : s.size ≤ 1000) :
    Calls Tryd.prog 43 #[.string s, .int .i64 k] w fun e w' => e = .returned (.bool (nmB (bs s) k)) ∧ Below w.heap.size w w' := by
  by_cases h0 : s.size = 0
  · have hn := tl_nil s h0
    go_enter Tryd.func43, Tryd.ntmps43
    go_wp2_with fail
    go_ret
    exact ⟨ret_bool (by simp [nmB, bs_length, h0]), Below.refl _ _⟩
  · have hn := tl_ne s h0
    have hn2 := tl_ne2 s h0
    have hp : 0 < s.size := by omega
    by_cases h24 : 24 < s.size
    · go_enter Tryd.func43, Tryd.ntmps43
      go_wp2_with fail
      go_ret
      exact ⟨ret_bool (by simp [nmB, bs_length]; omega), Below.refl _ _⟩
    · have ⟨u0, u1⟩ := ub s[0]
      by_cases hk : cls s[0].toNat = k
      · have hk' : (cls s[0].toNat != k) = false := by simpa using hk
        have Hk : Hid (cls s[0].toNat = k) := hk
        clear hk
        have hcv : ∀ u : World, (convert 9 57 (.string s)).run Tryd.prog u = .ok (.slice (some ⟨u.heap.size, 0, none⟩) s.size (grownCap u s.size 0 5)) (Lib.bytesWorld u 5 s) := fun u => Lib.run_convert_string_bytes u _ _ _ s Tryd.underlying9 Tryd.underlying57 Tryd.underlying5
        go_enter Tryd.func43, Tryd.ntmps43
        go_wp2_with fail
        refine (of_any _ _ (by assumption) (by assumption)).mono ?_
        rintro e w' ⟨rfl, rfl⟩
        go_wp2_with fail
        have hc : ∀ j : Nat, j < s.size → (Lib.bytesWorld w 5 s).cell? ⟨w.heap.size, j, none⟩ = some (.int .u8 ((bs s).getD j 0).toNat) := fun j hj => Lib.bytesWorld_cell w _ s j hj
        have Hb := below_bytes 5 s (Below.refl w.heap.size w) (Nat.le_refl _)
        generalize Lib.bytesWorld w 5 s = W1 at *
        have Hc := Lib.hid hc
        clear hc hcv
        go_loop [25] (fun i => ∃ k : Nat, k ≤ s.size ∧ i = .int .i64 k ∧ Hid (innsB ((bs s).take k) = true)) (fun i => s.size - (intOf i).toNat)
        case atStart => exact ⟨0, Nat.zero_le _, rfl, rfl⟩
        case round =>
          obtain ⟨j, hj, rfl, hin⟩ := hrel
          by_cases hlt : j < s.size
          · have hc := Hc.out j hlt
            have hnx := innsB_getD s j hlt
            have hfx := innsB_falseD s j hlt
            generalize (bs s).getD j 0 = x at *
            have Hnx := Lib.hid hnx
            have Hfx := Lib.hid hfx
            clear hnx hfx
            obtain ⟨v0, v1⟩ := ub x
            have ec := cls_inn x.toNat
            cases hcx : innB x.toNat with
            | false =>
              have hd : (cls x.toNat == 0 || cls x.toNat == 5) = true := by rw [hcx] at ec; revert ec; cases (cls x.toNat == 0 || cls x.toNat == 5) <;> simp
              have Hd := Lib.hid hd
              have Hcx := Lib.hid hcx
              clear ec hd hcx
              go_wp2_with fail
              refine (of_any _ _ (by assumption) (by assumption)).mono ?_
              rintro e w' ⟨rfl, rfl⟩
              go_wp2_with fail
              all_goals first
                | (go_ret; exact ⟨ret_bool (by simp [nmB, Hfx.out Hcx.out]), Hb⟩)
                | (exfalso; have := Hd.out; simp_all)
            | true =>
              have hd : (cls x.toNat == 0) = false ∧ (cls x.toNat == 5) = false := by rw [hcx] at ec; simpa using ec
              obtain ⟨hd1, hd2⟩ := hd
              have Hcx := Lib.hid hcx
              clear ec hcx
              go_wp2_with fail
              refine (of_any _ _ (by assumption) (by assumption)).mono ?_
              rintro e w' ⟨rfl, rfl⟩
              go_wp2_with fail
              go_round
              case rel => exact ⟨j + 1, by omega, by go_num, by show _ = _; rw [Hnx.out, hin.out, Hcx.out]; rfl⟩
              case measure => simp [intOf]; omega
          · go_wp2
            go_ret
            have hin' := hin.out
            rw [List.take_of_length_le (by rw [bs_length]; omega)] at hin'
            refine ⟨ret_bool ?_, Hb⟩
            have : (cls ((bs s).headD 0).toNat == k) = true := by rw [bs_head s hp]; simpa using Hk.out
            unfold nmB; rw [this, hin']; simp [bs_length]; omega
      · have hk' : (cls s[0].toNat != k) = true := by rw [bne_iff_ne]; exact hk
        have Hk : Hid (cls s[0].toNat ≠ k) := hk
        clear hk
        go_enter Tryd.func43, Tryd.ntmps43
        go_wp2_with (go_at_call 51; refine (of_any _ _ (by assumption) (by assumption)).mono ?_; rintro e w' ⟨rfl, rfl⟩)
        go_ret
        refine ⟨ret_bool ?_, Below.refl _ _⟩
        have : (cls ((bs s).headD 0).toNat == k) = false := by rw [bs_head s hp]; simpa using Hk.out
        unfold nmB
        rw [this]
        simp

def wordB (l : List UInt8) : Bool := decide (1 ≤ l.length) && decide (l.length ≤ 24) && innsB l
def upB (l : List UInt8) : Bool := wordB l && capB (l.headD 0).toNat
theorem nm1 (l : List UInt8) : nmB l 1 = (wordB l && smallB (l.headD 0).toNat) := by
  have : (cls (l.headD 0).toNat == 1) = smallB (l.headD 0).toNat := by
    generalize ((l.headD 0).toNat : Int) = c
    unfold cls smallB
    repeat' split
    all_goals simp_all
  unfold nmB wordB; rw [this]; ac_rfl
theorem nm2 (l : List UInt8) : nmB l 2 = upB l := by
  have : (cls (l.headD 0).toNat == 2) = capB (l.headD 0).toNat := by
    generalize ((l.headD 0).toNat : Int) = c
    unfold cls capB
    repeat' split
    all_goals simp_all
    all_goals omega
  unfold nmB upB wordB; rw [this]; ac_rfl

theorem isUpper_any (s : ByteArray) (w : World) (hs : s.size ≤ 1000) :
    Calls Tryd.prog 18 #[.string s] w fun e w' => e = .returned (.bool (upB (bs s))) ∧ Below w.heap.size w w' := by
  go_enter Tryd.func18, Tryd.ntmps18
  go_wp2_with fail
  refine (name_any _ _ _ hs).mono ?_
  rintro e w' ⟨rfl, hb⟩
  rw [nm2]
  go_wp2_with fail
  go_ret
  exact ⟨rfl, hb⟩

theorem word_any (s : ByteArray) (w : World) (hs : s.size ≤ 1000) :
    Calls Tryd.prog 45 #[.string s] w fun e w' => e = .returned (.bool (wordB (bs s))) ∧ w = w' := by
  go_enter Tryd.func45, Tryd.ntmps45
  go_wp2_with (go_at_call 50; refine (inner_any _ _ hs).mono ?_; rintro e w' ⟨rfl, rfl⟩)
  all_goals
    go_ret
    refine ⟨ret_bool ?_, rfl⟩
    simp [wordB, bs_length]
    try omega

theorem rIsUpper_any (s : ByteArray) (w : World) (hs : s.size ≤ 1000) :
    Calls Tryd.prog 19 #[.string s] w fun e w' => e = .returned (.bool (upB (bs s))) ∧ w = w' := by
  by_cases hw : wordB (bs s) = true
  · have hp : 0 < s.size := by simp [wordB, bs_length] at hw; omega
    have hh := bs_head s hp
    obtain ⟨u0, u1⟩ := ub s[0]
    go_enter Tryd.func19, Tryd.ntmps19
    go_wp2_with (first | (go_at_call 45; refine (word_any _ _ hs).mono ?_; rintro e w' ⟨rfl, rfl⟩) | (go_at_call 49; refine (capital_any _ _ (by assumption) (by assumption)).mono ?_; rintro e w' ⟨rfl, rfl⟩))
    go_ret
    exact ⟨ret_bool (by unfold upB; rw [hw, hh]; rfl), rfl⟩
  · have hw' : wordB (bs s) = false := by simpa using hw
    go_enter Tryd.func19, Tryd.ntmps19
    go_wp2_with (go_at_call 45; refine (word_any _ _ hs).mono ?_; rintro e w' ⟨rfl, rfl⟩)
    go_ret
    exact ⟨ret_bool (by simp [upB, hw']), rfl⟩

def varB (l : List UInt8) : Bool := decide (2 ≤ l.length) && decide (l.length ≤ 24) && ((l.headD 0).toNat == 39) && smallB ((l.drop 1).headD 0).toNat && innsB (l.drop 1)
def dots (l : List UInt8) : Bool := l.all fun b => innB b.toNat || (b.toNat == 46)
def labB (l : List UInt8) : Bool := dots l && decide (1 ≤ l.length) && decide (l.length ≤ 48)
theorem dots_take (s : ByteArray) (k : Nat) (h : k < s.size) : dots ((bs s).take (k + 1)) = (dots ((bs s).take k) && (innB s[k].toNat || (s[k].toNat == 46))) := by
  rw [take_snoc s k h]; simp [dots]
theorem dots_false (s : ByteArray) (k : Nat) (h : k < s.size) (hf : innB s[k].toNat = false) (hd : (s[k].toNat == 46) = false) : dots (bs s) = false := by
  unfold dots
  rw [List.all_eq_false]
  exact ⟨s[k], by simp [bs, ByteArray.getElem_eq_getElem_data], by simpa [hf] using hd⟩

theorem rIsLabel_any (s : ByteArray) (w : World) (hs : s.size ≤ 1000) :
    Calls Tryd.prog 23 #[.string s] w fun e w' => e = .returned (.bool (labB (bs s))) ∧ w = w' := by
  go_enter Tryd.func23, Tryd.ntmps23
  go_wp2
  go_loop [3] (fun i => ∃ k : Nat, k ≤ s.size ∧ i = .int .i64 k ∧ Hid (dots ((bs s).take k) = true)) (fun i => s.size - (intOf i).toNat)
  case atStart => exact ⟨0, Nat.zero_le _, rfl, rfl⟩
  case round =>
    obtain ⟨k, hk, rfl, hin⟩ := hrel
    by_cases hlt : k < s.size
    · obtain ⟨u0, u1⟩ := ub s[k]
      have Hn := Lib.hid (dots_take s k hlt)
      have Hf := Lib.hid (dots_false s k hlt)
      by_cases hd : s[k].toNat = 46
      · have hd2 : ((s[k].toNat : Int) != 46) = false := by rw [hd]; rfl
        have Hd := Lib.hid hd
        clear hd
        go_wp2_with (go_at_call 52; refine (inner1_any _ _ (by assumption) (by assumption)).mono ?_; rintro e w' ⟨rfl, rfl⟩)
        all_goals
          have hnext : Hid (dots ((bs s).take (k + 1)) = true) := by show _ = _; rw [Hn.out, hin.out, Hd.out]; simp
          go_round
          case rel => exact ⟨k + 1, by omega, by go_num, hnext⟩
          case measure => simp [intOf]; omega
      · have hd2 : ((s[k].toNat : Int) != 46) = true := by rw [bne_iff_ne]; omega
        have Hd := Lib.hid hd
        clear hd
        have ⟨bb, hbb⟩ : ∃ bb, bb = innB s[k].toNat := ⟨_, rfl⟩
        have Hbb := Lib.hid hbb
        clear hbb
        go_wp2_with fail
        refine (inner1_any _ _ (by assumption) (by assumption)).mono ?_
        rintro e w' ⟨rfl, rfl⟩
        rw [← Hbb.out]
        cases bb
        · go_wp2_with fail
          go_ret
          exact ⟨ret_bool (by unfold labB; rw [Hf.out Hbb.out.symm (by simpa using Hd.out)]; rfl), rfl⟩
        · go_wp2_with fail
          have hnext : Hid (dots ((bs s).take (k + 1)) = true) := by show _ = _; rw [Hn.out, hin.out, ← Hbb.out]; rfl
          go_round
          case rel => exact ⟨k + 1, by omega, by go_num, hnext⟩
          case measure => simp [intOf]; omega
    · go_wp2
      all_goals
        go_ret
        have hin' := hin.out
        rw [List.take_of_length_le (by rw [bs_length]; omega)] at hin'
        refine ⟨ret_bool ?_, rfl⟩
        unfold labB
        rw [hin', bs_length]
        obtain rfl : k = s.size := by omega
        by_cases h1 : 1 ≤ s.size <;> by_cases h2 : s.size ≤ 48 <;> simp [h1, h2] <;> omega

end Go.Proofs.YtbjjimfdbbhjgaaDoor
