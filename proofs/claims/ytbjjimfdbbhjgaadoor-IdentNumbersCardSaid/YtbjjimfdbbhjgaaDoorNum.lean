/- Number, and its reference. -/
import Derived.Test.YtbjjimfdbbhjgaaDoorLaws1
import Derived.Test.YtbjjimfdbbhjgaaDoorShelf2
import Derived.WideLaws
namespace Go.Proofs.YtbjjimfdbbhjgaaDoor
open Go Go.RowKit

def numF (acc : Nat) (l : List UInt8) : Nat := l.foldl (fun n c => n * 10 + (c.toNat - 48)) acc
def digsB (l : List UInt8) : Bool := l.all fun c => digB c.toNat
theorem numF_ge : ∀ (l : List UInt8) (acc : Nat), acc ≤ numF acc l
  | [], acc => Nat.le_refl _
  | c :: l, acc => by
    have := numF_ge l (acc * 10 + (c.toNat - 48))
    show acc ≤ numF (acc * 10 + (c.toNat - 48)) l
    omega
theorem digB_iff (c : UInt8) : digB c.toNat = true ↔ 48 ≤ c.toNat ∧ c.toNat ≤ 57 := by
  unfold digB; rw [decide_eq_true_iff]; omega
theorem parse_ok : ∀ (l : List UInt8) (acc : Nat), digsB l = true → numF acc l < 18446744073709551616 → Lib.parseUint10 acc l = .ok (numF acc l)
  | [], acc, _, _ => rfl
  | c :: l, acc, hd, h => by
    unfold digsB at hd
    simp only [List.all_cons, Bool.and_eq_true] at hd
    have hc := (digB_iff c).1 hd.1
    have hge := numF_ge l (acc * 10 + (c.toNat - 48))
    have h' : numF (acc * 10 + (c.toNat - 48)) l < 18446744073709551616 := h
    unfold Lib.parseUint10
    rw [if_pos hc, if_neg (by omega), if_neg (by omega), parse_ok l _ hd.2 h']
    rfl
theorem parse_range : ∀ (l : List UInt8) (acc : Nat), digsB l = true → acc < 18446744073709551616 → 18446744073709551616 ≤ numF acc l → Lib.parseUint10 acc l = .range
  | [], acc, _, ha, h => by exact absurd h (by show ¬ _ ≤ acc; omega)
  | c :: l, acc, hd, ha, h => by
    unfold digsB at hd
    simp only [List.all_cons, Bool.and_eq_true] at hd
    have hc := (digB_iff c).1 hd.1
    unfold Lib.parseUint10
    rw [if_pos hc]
    by_cases h1 : 1844674407370955162 ≤ acc
    · rw [if_pos h1]
    · rw [if_neg h1]
      by_cases h2 : 18446744073709551616 ≤ acc * 10 + (c.toNat - 48)
      · rw [if_pos h2]
      · rw [if_neg h2]
        exact parse_range l _ hd.2 (by omega) h
theorem atoi_digs (l : List UInt8) (hne : l ≠ []) (hd : digsB l = true) : (numF 0 l < 9223372036854775808 → Lib.atoiAll l = .ok (numF 0 l)) ∧ (9223372036854775808 ≤ numF 0 l → Lib.atoiAll l = .range) := by
  cases l with
  | nil => exact absurd rfl hne
  | cons c r =>
    have hc : 48 ≤ c.toNat ∧ c.toNat ≤ 57 := by
      unfold digsB at hd
      simp only [List.all_cons, Bool.and_eq_true] at hd
      exact (digB_iff c).1 hd.1
    have hb : ¬ (c.toNat = 43 ∨ c.toNat = 45) := by omega
    have hn : ¬ c.toNat = 45 := by omega
    constructor
    · intro h
      unfold Lib.atoiAll Lib.parseMag
      simp only
      rw [if_neg hb, if_neg (by simp), parse_ok _ _ hd (by omega)]
      simp only [hn, not_false_eq_true, true_and, false_and, if_false]
      rw [if_neg (by omega)]
    · intro h
      by_cases h2 : numF 0 (c :: r) < 18446744073709551616
      · unfold Lib.atoiAll Lib.parseMag
        simp only
        rw [if_neg hb, if_neg (by simp), parse_ok _ _ hd h2]
        simp only [hn, not_false_eq_true, true_and, false_and, if_false]
        rw [if_pos h]
      · unfold Lib.atoiAll Lib.parseMag
        simp only
        rw [if_neg hb, if_neg (by simp), parse_range _ _ hd (by omega) (by omega)]

/-- What Number answers. -/
def numT (l : List UInt8) : Int × Int :=
  if l = [] ∨ (1 < l.length ∧ (l.headD 0).toNat = 48) then (0, 3) else if digsB l = false then (0, 3) else if 4503599627370496 < numF 0 l then (0, 6) else ((numF 0 l : Int), 0)
def numV (l : List UInt8) : Value := .tuple #[.int .i64 (numT l).1, .int .i64 (numT l).2]
theorem digsB_take (s : ByteArray) (k : Nat) (h : k < s.size) : digsB ((bs s).take (k + 1)) = (digsB ((bs s).take k) && digB s[k].toNat) := by
  rw [take_snoc s k h]; simp [digsB]
theorem digsB_no (s : ByteArray) (k : Nat) (h : k < s.size) (hf : digB s[k].toNat = false) : digsB (bs s) = false := by
  unfold digsB
  rw [List.all_eq_false]
  exact ⟨s[k], by simp [bs, ByteArray.getElem_eq_getElem_data], by simp [hf]⟩
theorem getD_get (s : ByteArray) (k : Nat) (h : k < s.size) : (bs s).getD k 0 = s[k] := by simp [bs, ByteArray.getElem_eq_getElem_data, h]
theorem cls_dig (c : Int) : (cls c != 3) = !digB c := by
  unfold digB cls
  by_cases a : 97 ≤ c ∧ c ≤ 122 <;> by_cases b : 65 ≤ c ∧ c ≤ 90 <;> by_cases d : 48 ≤ c ∧ c ≤ 57 <;> by_cases e : c = 95 <;> by_cases f : c = 46 <;> simp [a, b, d, e, f] <;> omega

/-- What Number needs of the world, beside the rest. -/
structure EnvN (w : World) : Prop where
  env : Env w
  er : ∃ tp p, w.var? Tryd.prog "strconv.ErrRange" = some #[.iface tp p]
theorem EnvN.below {w w' : World} (h : EnvN w) (hb : Below w.heap.size w w') : EnvN w' :=
  ⟨h.env.below hb, by obtain ⟨tp, p, hp⟩ := h.er; exact ⟨tp, p, var_below hp hb⟩⟩

set_option maxHeartbeats 1000000 in
theorem number_any (s : ByteArray) (w : World) (hE : EnvN w) (hs : s.size ≤ 1000) :
    Calls Tryd.prog 37 #[.string s] w fun e w' => e = .returned (numV (bs s)) ∧ Below w.heap.size w w' := by
  by_cases h0 : s.size = 0
  · have hn := tl_nil s h0
    have hv : Hid (numV (bs s) = .tuple #[.int .i64 0, .int .i64 3]) := by
      show _ = _
      have : bs s = [] := List.length_eq_zero_iff.1 (by rw [bs_length]; exact h0)
      unfold numV numT; rw [this]; rfl
    go_enter Tryd.func37, Tryd.ntmps37
    go_wp2_with fail
    go_ret2
    exact ⟨by rw [hv.out]; rfl, Below.refl _ _⟩
  · have hn := tl_ne s h0
    have hn2 := tl_ne2 s h0
    have hp : 0 < s.size := by omega
    have hh := bs_head s hp
    have hne : bs s ≠ [] := by intro e; have := bs_length s; rw [e] at this; simp at this; omega
    by_cases hz : 1 < s.size ∧ (s[0].toNat : Int) = 48
    · obtain ⟨hz1, hz2⟩ := hz
      have hz3 : ((s[0].toNat : Int) == 48) = true := by rw [hz2]; rfl
      have hv : Hid (numV (bs s) = .tuple #[.int .i64 0, .int .i64 3]) := by
        show _ = _
        unfold numV numT
        rw [if_pos (.inr ⟨by rw [bs_length]; exact hz1, by rw [hh]; omega⟩)]
      clear hz2 hh
      go_enter Tryd.func37, Tryd.ntmps37
      go_wp2_with fail
      go_ret2
      exact ⟨by rw [hv.out]; rfl, Below.refl _ _⟩
    · have hT : Hid (numT (bs s) = if digsB (bs s) = false then (0, 3) else if 4503599627370496 < numF 0 (bs s) then (0, 6) else ((numF 0 (bs s) : Int), 0)) := by
        show _ = _
        unfold numT
        rw [if_neg]
        rintro (h | ⟨h1, h2⟩)
        · exact hne h
        · exact hz ⟨by rw [bs_length] at h1; exact h1, by rw [hh] at h2; omega⟩
      have hdec : (s.size = 1) ∨ (1 < s.size ∧ ((s[0].toNat : Int) == 48) = false) := by
        by_cases h1 : s.size = 1
        · exact .inl h1
        · right; refine ⟨by omega, ?_⟩
          rw [beq_eq_false_iff_ne]; intro e; exact hz ⟨by omega, e⟩
      have hcv : ∀ u : World, (convert 9 57 (.string s)).run Tryd.prog u = .ok (.slice (some ⟨u.heap.size, 0, none⟩) s.size (grownCap u s.size 0 5)) (Lib.bytesWorld u 5 s) := fun u => Lib.run_convert_string_bytes u _ _ _ s Tryd.underlying9 Tryd.underlying57 Tryd.underlying5
      have Hne := Lib.hid hne
      have h1a : ¬ 1 < s.size ∨ (1 < s.size ∧ ((s[0].toNat : Int) == 48) = false) := hdec.imp (fun h => by omega) id
      clear hz hh hne hdec
      rcases h1a with h1a | ⟨h1a, h1b⟩
      all_goals
        go_enter Tryd.func37, Tryd.ntmps37
        go_wp2_with fail
        have hc : ∀ j : Nat, j < s.size → (Lib.bytesWorld w 5 s).cell? ⟨w.heap.size, j, none⟩ = some (.int .u8 ((bs s).getD j 0).toNat) := fun j hj => Lib.bytesWorld_cell w _ s j hj
        have Hb := below_bytes 5 s (Below.refl w.heap.size w) (Nat.le_refl _)
        have hE1 := hE.below Hb
        generalize Lib.bytesWorld w 5 s = W1 at hc Hb hE1 ⊢
        have Hc := Lib.hid hc
        clear hc hcv
        go_loop [23] (fun i => ∃ k : Nat, k ≤ s.size ∧ i = .int .i64 k ∧ Hid (digsB ((bs s).take k) = true)) (fun i => s.size - (intOf i).toNat)
        case atStart => exact ⟨0, Nat.zero_le _, rfl, rfl⟩
        case round =>
          obtain ⟨j, hj, rfl, hin⟩ := hrel
          by_cases hlt : j < s.size
          · have hc := Hc.out j hlt
            rw [getD_get s j hlt] at hc
            have Hnx := Lib.hid (digsB_take s j hlt)
            have Hfx := Lib.hid (digsB_no s j hlt)
            generalize s[j] = x at *
            obtain ⟨v0, v1⟩ := ub x
            have ec := cls_dig x.toNat
            cases hcx : digB x.toNat with
            | false =>
              rw [hcx] at ec
              have Hcx := Lib.hid hcx
              have hv : Hid (numV (bs s) = .tuple #[.int .i64 0, .int .i64 3]) := by
                show _ = _
                unfold numV; rw [hT.out, if_pos (Hfx.out hcx)]
              clear hcx
              go_wp2_with fail
              refine (of_any _ _ (by assumption) (by assumption)).mono ?_
              rintro e w' ⟨rfl, rfl⟩
              go_wp2_with fail
              go_ret2
              exact ⟨by rw [hv.out]; rfl, Hb⟩
            | true =>
              rw [hcx] at ec
              have Hcx := Lib.hid hcx
              clear hcx
              go_wp2_with fail
              refine (of_any _ _ (by assumption) (by assumption)).mono ?_
              rintro e w' ⟨rfl, rfl⟩
              go_wp2_with fail
              go_round
              case rel => exact ⟨j + 1, by omega, by go_num, by show _ = _; rw [Hnx.out, hin.out, Hcx.out]; rfl⟩
              case measure => simp [intOf]; omega
          · have hin' := hin.out
            rw [List.take_of_length_le (by rw [bs_length]; omega)] at hin'
            obtain ⟨ha1, ha2⟩ := atoi_digs (bs s) Hne.out hin'
            have hT2 := hT.out
            rw [if_neg (by rw [hin']; simp)] at hT2
            have HT2 := Lib.hid hT2
            clear hin' hT2 hT
            by_cases hbig : numF 0 (bs s) < 9223372036854775808
            · have H := Lib.hid (Tryd.strconv_Atoi_ok s (by omega) _ (ha1 hbig) W1)
              clear ha1 ha2
              generalize numF 0 (bs s) = n at *
              by_cases hm : 4503599627370496 < n
              · have hv : Hid (numV (bs s) = .tuple #[.int .i64 0, .int .i64 6]) := by
                  show _ = _
                  unfold numV; rw [HT2.out, if_pos hm]
                go_wp2_with fail
                refine H.out.mono ?_
                rintro e w2 ⟨rfl, hw2⟩
                have hb2 : Below w.heap.size w w2 := by
                  rcases hw2 with rfl | ⟨t, rfl⟩
                  · exact Hb
                  · exact below_bytes _ t Hb Hb.size
                clear hw2
                go_wp2_with fail
                go_ret2
                exact ⟨by rw [hv.out]; rfl, hb2⟩
              · have hv : Hid (numV (bs s) = .tuple #[.int .i64 n, .int .i64 0]) := by
                  show _ = _
                  unfold numV; rw [HT2.out, if_neg hm]
                go_wp2_with fail
                refine H.out.mono ?_
                rintro e w2 ⟨rfl, hw2⟩
                have hb2 : Below w.heap.size w w2 := by
                  rcases hw2 with rfl | ⟨t, rfl⟩
                  · exact Hb
                  · exact below_bytes _ t Hb Hb.size
                clear hw2
                go_wp2_with fail
                go_ret2
                exact ⟨by rw [hv.out]; rfl, hb2⟩
            · obtain ⟨tp, p, hvar⟩ := hE1.er
              have H := Lib.hid (Tryd.strconv_Atoi_range_var s (by omega) (ha2 (by omega)) tp p W1 hvar)
              have hv : Hid (numV (bs s) = .tuple #[.int .i64 0, .int .i64 6]) := by
                show _ = _
                unfold numV; rw [HT2.out, if_pos (by omega)]
              clear ha1 ha2 hbig hvar
              go_wp2_with fail
              refine H.out.mono ?_
              rintro e w2 ⟨N, rfl, _, _, hb2⟩
              have hb3 : Below w.heap.size w w2 := Hb.trans (hb2.mono Hb.size)
              go_wp2_with fail
              go_ret2
              exact ⟨by rw [hv.out]; rfl, hb3⟩
end Go.Proofs.YtbjjimfdbbhjgaaDoor
