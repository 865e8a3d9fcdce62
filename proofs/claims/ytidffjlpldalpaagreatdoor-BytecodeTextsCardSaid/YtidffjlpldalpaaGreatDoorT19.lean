/- ident.Number: the number that is written with digits. -/
import Derived.Test.YtidffjlpldalpaaGreatDoorT17
import Derived.WideLaws
set_option linter.unusedVariables false
set_option linter.unusedSimpArgs false
namespace Go.Proofs.YtidffjlpldalpaaGreatDoor
open Go Go.RowKit

def cls (c : Int) : Int :=
  if 97 ≤ c ∧ c ≤ 122 then 1 else if 65 ≤ c ∧ c ≤ 90 then 2 else if 48 ≤ c ∧ c ≤ 57 then 3 else if c = 95 then 4 else if c = 46 then 5 else 0
def digB (c : Int) : Bool := decide (48 ≤ c ∧ c ≤ 57)
theorem of_any (c : Int) (w : World) (h0 : 0 ≤ c) (h1 : c ≤ 255) :
    Calls Tryz.prog 100 #[.int .u8 c] w fun e w' => e = .returned (.int .i64 (cls c)) ∧ w = w' := by
  go_enter Tryz.func100, Tryz.ntmps100
  go_wp2
  all_goals
    go_ret
    refine ⟨ret_int ?_, rfl⟩
    try simp only [beq_iff_eq, beq_eq_false_iff_ne, ne_eq] at *
    unfold cls
    repeat' split
    all_goals omega
/-- What a string's bytes read as. -/
def bs (s : ByteArray) : List UInt8 := s.data.toList
theorem bs_length (s : ByteArray) : (bs s).length = s.size := by simp [bs]
theorem take_snoc (s : ByteArray) (k : Nat) (h : k < s.size) : (bs s).take (k + 1) = (bs s).take k ++ [s[k]] := by
  unfold bs
  rw [List.take_succ_eq_append_getElem (by simpa using h)]; rfl
theorem tl_nil (s : ByteArray) (h : s.size = 0) : s.toList = [] := by
  rw [Go.ByteArray.toList_eq, ← List.length_eq_zero_iff]; simpa using h
theorem tl_ne (s : ByteArray) (h : ¬ s.size = 0) : ¬ s.toList = [] := by
  rw [Go.ByteArray.toList_eq, ← List.length_eq_zero_iff]; simpa using h
theorem tl_ne2 (s : ByteArray) (h : ¬ s.size = 0) : s.toList.isEmpty = false := by
  have := tl_ne s h
  cases hl : s.toList with
  | nil => exact absurd hl this
  | cons x l => rfl
theorem bs_head (s : ByteArray) (h : 0 < s.size) : (bs s).headD 0 = s[0] := by
  have : (bs s)[0]? = some s[0] := by
    simp [bs, ByteArray.getElem_eq_getElem_data]
  cases hl : bs s with
  | nil => rw [hl] at this; simp at this
  | cons x l => rw [hl] at this; simpa using this
theorem var_below {P : Program} {w w' : World} {n : String} {cs : Array Value} (h : w.var? P n = some cs) (hb : Below w.heap.size w w') : w'.var? P n = some cs := by
  unfold World.var? at h ⊢
  cases hg : P.globalNamed n with
  | none => simp [hg] at h
  | some g =>
    simp only [hg, Option.bind_some] at h ⊢
    have hlt : g < w.heap.size := by
      rcases Nat.lt_or_ge g w.heap.size with h' | h'
      · exact h'
      · simp [Array.getElem?_eq_none h'] at h
    rw [hb.block g hlt]
    exact h
/-- What reading a text needs of the world: two of the library's variables. -/
structure EnvN (w : World) : Prop where
  ml : ∃ m : Int, w.cell? ⟨1, 0, none⟩ = some (.int .i64 m)
  sz : 1 < w.heap.size
  er : ∃ tp p, w.var? Tryz.prog "strconv.ErrRange" = some #[.iface tp p]
theorem EnvN.below {w w' : World} (h : EnvN w) (hb : Below w.heap.size w w') : EnvN w' :=
  ⟨by obtain ⟨m, hm⟩ := h.ml; exact ⟨m, (hb.cell (p := ⟨1, 0, none⟩) h.sz).trans hm⟩, Nat.lt_of_lt_of_le h.sz hb.size, by obtain ⟨tp, p, hp⟩ := h.er; exact ⟨tp, p, var_below hp hb⟩⟩

def numF (acc : Nat) (l : List UInt8) : Nat := l.foldl (fun n c => n * 10 + (c.toNat - 48)) acc
def digsB (l : List UInt8) : Bool := l.all fun c => digB c.toNat
theorem numF_ge : ∀ (l : List UInt8) (acc : Nat), acc ≤ numF acc l
  | [], acc => Nat.le_refl _
  | c :: l, acc => by
    have := numF_ge l (acc * 10 + (c.toNat - 48))
    show acc ≤ numF (acc * 10 + (c.toNat - 48)) l
    omega
theorem digB_iff (c : UInt8) : digB c.toNat = true ↔ 48 ≤ c.toNat ∧ c.toNat ≤ 57 := by
  unfold digB; rw [decide_eq_true_iff]; omega
theorem parse_ok : ∀ (l : List UInt8) (acc : Nat), digsB l = true → numF acc l < 18446744073709551616 → Lib.parseUint10 acc l = .ok (numF acc l)
  | [], acc, _, _ => rfl
  | c :: l, acc, hd, h => by
    unfold digsB at hd
    simp only [List.all_cons, Bool.and_eq_true] at hd
    have hc := (digB_iff c).1 hd.1
    have hge := numF_ge l (acc * 10 + (c.toNat - 48))
    have h' : numF (acc * 10 + (c.toNat - 48)) l < 18446744073709551616 := h
    unfold Lib.parseUint10
    rw [if_pos hc, if_neg (by omega), if_neg (by omega), parse_ok l _ hd.2 h']
    rfl
theorem parse_range : ∀ (l : List UInt8) (acc : Nat), digsB l = true → acc < 18446744073709551616 → 18446744073709551616 ≤ numF acc l → Lib.parseUint10 acc l = .range
  | [], acc, _, ha, h => by exact absurd h (by show ¬ _ ≤ acc; omega)
  | c :: l, acc, hd, ha, h => by
    unfold digsB at hd
    simp only [List.all_cons, Bool.and_eq_true] at hd
    have hc := (digB_iff c).1 hd.1
    unfold Lib.parseUint10
    rw [if_pos hc]
    by_cases h1 : 1844674407370955162 ≤ acc
    · rw [if_pos h1]
    · rw [if_neg h1]
      by_cases h2 : 18446744073709551616 ≤ acc * 10 + (c.toNat - 48)
      · rw [if_pos h2]
      · rw [if_neg h2]
        exact parse_range l _ hd.2 (by omega) h
theorem atoi_digs (l : List UInt8) (hne : l ≠ []) (hd : digsB l = true) : (numF 0 l < 9223372036854775808 → Lib.atoiAll l = .ok (numF 0 l)) ∧ (9223372036854775808 ≤ numF 0 l → Lib.atoiAll l = .range) := by
  cases l with
  | nil => exact absurd rfl hne
  | cons c r =>
    have hc : 48 ≤ c.toNat ∧ c.toNat ≤ 57 := by
      unfold digsB at hd
      simp only [List.all_cons, Bool.and_eq_true] at hd
      exact (digB_iff c).1 hd.1
    have hb : ¬ (c.toNat = 43 ∨ c.toNat = 45) := by omega
    have hn : ¬ c.toNat = 45 := by omega
    constructor
    · intro h
      unfold Lib.atoiAll Lib.parseMag
      simp only
      rw [if_neg hb, if_neg (by simp), parse_ok _ _ hd (by omega)]
      simp only [hn, not_false_eq_true, true_and, false_and, if_false]
      rw [if_neg (by omega)]
    · intro h
      by_cases h2 : numF 0 (c :: r) < 18446744073709551616
      · unfold Lib.atoiAll Lib.parseMag
        simp only
        rw [if_neg hb, if_neg (by simp), parse_ok _ _ hd h2]
        simp only [hn, not_false_eq_true, true_and, false_and, if_false]
        rw [if_pos h]
      · unfold Lib.atoiAll Lib.parseMag
        simp only
        rw [if_neg hb, if_neg (by simp), parse_range _ _ hd (by omega) (by omega)]

/-- What Number answers. -/
def idT (l : List UInt8) : Int × Int :=
  if l = [] ∨ (1 < l.length ∧ (l.headD 0).toNat = 48) then (0, 3) else if digsB l = false then (0, 3) else if 4503599627370496 < numF 0 l then (0, 6) else ((numF 0 l : Int), 0)
def idV (l : List UInt8) : Value := .tuple #[.int .i64 (idT l).1, .int .i64 (idT l).2]
theorem digsB_take (s : ByteArray) (k : Nat) (h : k < s.size) : digsB ((bs s).take (k + 1)) = (digsB ((bs s).take k) && digB s[k].toNat) := by
  rw [take_snoc s k h]; simp [digsB]
theorem digsB_no (s : ByteArray) (k : Nat) (h : k < s.size) (hf : digB s[k].toNat = false) : digsB (bs s) = false := by
  unfold digsB
  rw [List.all_eq_false]
  exact ⟨s[k], by simp [bs, ByteArray.getElem_eq_getElem_data], by simp [hf]⟩
theorem getD_get (s : ByteArray) (k : Nat) (h : k < s.size) : (bs s).getD k 0 = s[k] := by simp [bs, ByteArray.getElem_eq_getElem_data, h]
theorem cls_dig (c : Int) : (cls c != 3) = !digB c := by
  unfold digB cls
  by_cases a : 97 ≤ c ∧ c ≤ 122 <;> by_cases b : 65 ≤ c ∧ c ≤ 90 <;> by_cases d : 48 ≤ c ∧ c ≤ 57 <;> by_cases e : c = 95 <;> by_cases f : c = 46 <;> simp [a, b, d, e, f] <;> omega

set_option maxHeartbeats 1000000 in
theorem idNumber_any (s : ByteArray) (w : World) (hE : EnvN w) (hs : s.size ≤ 1000000) :
    Calls Tryz.prog 89 #[.string s] w fun e w' => e = .returned (idV (bs s)) ∧ Below w.heap.size w w' := by
  by_cases h0 : s.size = 0
  · have hn := tl_nil s h0
    have hv : Hid (idV (bs s) = .tuple #[.int .i64 0, .int .i64 3]) := by
      show _ = _
      have : bs s = [] := List.length_eq_zero_iff.1 (by rw [bs_length]; exact h0)
      unfold idV idT; rw [this]; rfl
    go_enter Tryz.func89, Tryz.ntmps89
    go_wp2_with fail
    go_ret2
    exact ⟨by rw [hv.out]; rfl, Below.refl _ _⟩
  · have hn := tl_ne s h0
    have hn2 := tl_ne2 s h0
    have hp : 0 < s.size := by omega
    have hh := bs_head s hp
    have hne : bs s ≠ [] := by intro e; have := bs_length s; rw [e] at this; simp at this; omega
    by_cases hz : 1 < s.size ∧ (s[0].toNat : Int) = 48
    · obtain ⟨hz1, hz2⟩ := hz
      have hz3 : ((s[0].toNat : Int) == 48) = true := by rw [hz2]; rfl
      have hv : Hid (idV (bs s) = .tuple #[.int .i64 0, .int .i64 3]) := by
        show _ = _
        unfold idV idT
        rw [if_pos (.inr ⟨by rw [bs_length]; exact hz1, by rw [hh]; omega⟩)]
      clear hz2 hh
      go_enter Tryz.func89, Tryz.ntmps89
      go_wp2_with fail
      go_ret2
      exact ⟨by rw [hv.out]; rfl, Below.refl _ _⟩
    · have hT : Hid (idT (bs s) = if digsB (bs s) = false then (0, 3) else if 4503599627370496 < numF 0 (bs s) then (0, 6) else ((numF 0 (bs s) : Int), 0)) := by
        show _ = _
        unfold idT
        rw [if_neg]
        rintro (h | ⟨h1, h2⟩)
        · exact hne h
        · exact hz ⟨by rw [bs_length] at h1; exact h1, by rw [hh] at h2; omega⟩
      have hdec : (s.size = 1) ∨ (1 < s.size ∧ ((s[0].toNat : Int) == 48) = false) := by
        by_cases h1 : s.size = 1
        · exact .inl h1
        · right; refine ⟨by omega, ?_⟩
          rw [beq_eq_false_iff_ne]; intro e; exact hz ⟨by omega, e⟩
      have hcv : ∀ u : World, (convert 9 38 (.string s)).run Tryz.prog u = .ok (.slice (some ⟨u.heap.size, 0, none⟩) s.size (grownCap u s.size 0 5)) (Lib.bytesWorld u 5 s) := fun u => Lib.run_convert_string_bytes u _ _ _ s Tryz.underlying9 Tryz.underlying38 Tryz.underlying5
      have Hne := Lib.hid hne
      have h1a : ¬ 1 < s.size ∨ (1 < s.size ∧ ((s[0].toNat : Int) == 48) = false) := hdec.imp (fun h => by omega) id
      clear hz hh hne hdec
      rcases h1a with h1a | ⟨h1a, h1b⟩
      all_goals
        go_enter Tryz.func89, Tryz.ntmps89
        go_wp2_with fail
        have hc : ∀ j : Nat, j < s.size → (Lib.bytesWorld w 5 s).cell? ⟨w.heap.size, j, none⟩ = some (.int .u8 ((bs s).getD j 0).toNat) := fun j hj => Lib.bytesWorld_cell w _ s j hj
        have Hb := below_bytes 5 s (Below.refl w.heap.size w) (Nat.le_refl _)
        have hE1 := hE.below Hb
        generalize Lib.bytesWorld w 5 s = W1 at hc Hb hE1 ⊢
        have Hc := Lib.hid hc
        clear hc hcv
        go_loop [23] (fun i => ∃ k : Nat, k ≤ s.size ∧ i = .int .i64 k ∧ Hid (digsB ((bs s).take k) = true)) (fun i => s.size - (intOf i).toNat)
        case atStart => exact ⟨0, Nat.zero_le _, rfl, rfl⟩
        case round =>
          obtain ⟨j, hj, rfl, hin⟩ := hrel
          by_cases hlt : j < s.size
          · have hc := Hc.out j hlt
            rw [getD_get s j hlt] at hc
            have Hnx := Lib.hid (digsB_take s j hlt)
            have Hfx := Lib.hid (digsB_no s j hlt)
            generalize s[j] = x at *
            obtain ⟨v0, v1⟩ := ub x
            have ec := cls_dig x.toNat
            cases hcx : digB x.toNat with
            | false =>
              rw [hcx] at ec
              have Hcx := Lib.hid hcx
              have hv : Hid (idV (bs s) = .tuple #[.int .i64 0, .int .i64 3]) := by
                show _ = _
                unfold idV; rw [hT.out, if_pos (Hfx.out hcx)]
              clear hcx
              go_wp2_with fail
              refine (of_any _ _ (by assumption) (by assumption)).mono ?_
              rintro e w' ⟨rfl, rfl⟩
              go_wp2_with fail
              go_ret2
              exact ⟨by rw [hv.out]; rfl, Hb⟩
            | true =>
              rw [hcx] at ec
              have Hcx := Lib.hid hcx
              clear hcx
              go_wp2_with fail
              refine (of_any _ _ (by assumption) (by assumption)).mono ?_
              rintro e w' ⟨rfl, rfl⟩
              go_wp2_with fail
              go_round
              case rel => exact ⟨j + 1, by omega, by go_num, by show _ = _; rw [Hnx.out, hin.out, Hcx.out]; rfl⟩
              case measure => simp [intOf]; omega
          · have hin' := hin.out
            rw [List.take_of_length_le (by rw [bs_length]; omega)] at hin'
            obtain ⟨ha1, ha2⟩ := atoi_digs (bs s) Hne.out hin'
            have hT2 := hT.out
            rw [if_neg (by rw [hin']; simp)] at hT2
            have HT2 := Lib.hid hT2
            clear hin' hT2 hT
            by_cases hbig : numF 0 (bs s) < 9223372036854775808
            · have H := Lib.hid (Tryz.strconv_Atoi_ok s (by omega) _ (ha1 hbig) W1)
              clear ha1 ha2
              generalize numF 0 (bs s) = n at *
              by_cases hm : 4503599627370496 < n
              · have hv : Hid (idV (bs s) = .tuple #[.int .i64 0, .int .i64 6]) := by
                  show _ = _
                  unfold idV; rw [HT2.out, if_pos hm]
                go_wp2_with fail
                refine H.out.mono ?_
                rintro e w2 ⟨rfl, hw2⟩
                have hb2 : Below w.heap.size w w2 := by
                  rcases hw2 with rfl | ⟨t, rfl⟩
                  · exact Hb
                  · exact below_bytes _ t Hb Hb.size
                clear hw2
                go_wp2_with fail
                go_ret2
                exact ⟨by rw [hv.out]; rfl, hb2⟩
              · have hv : Hid (idV (bs s) = .tuple #[.int .i64 n, .int .i64 0]) := by
                  show _ = _
                  unfold idV; rw [HT2.out, if_neg hm]
                go_wp2_with fail
                refine H.out.mono ?_
                rintro e w2 ⟨rfl, hw2⟩
                have hb2 : Below w.heap.size w w2 := by
                  rcases hw2 with rfl | ⟨t, rfl⟩
                  · exact Hb
                  · exact below_bytes _ t Hb Hb.size
                clear hw2
                go_wp2_with fail
                go_ret2
                exact ⟨by rw [hv.out]; rfl, hb2⟩
            · obtain ⟨tp, p, hvar⟩ := hE1.er
              have H := Lib.hid (Tryz.strconv_Atoi_range_var s (by omega) (ha2 (by omega)) tp p W1 hvar)
              have hv : Hid (idV (bs s) = .tuple #[.int .i64 0, .int .i64 6]) := by
                show _ = _
                unfold idV; rw [HT2.out, if_pos (by omega)]
              clear ha1 ha2 hbig hvar
              go_wp2_with fail
              refine H.out.mono ?_
              rintro e w2 ⟨N, rfl, _, _, hb2⟩
              have hb3 : Below w.heap.size w w2 := Hb.trans (hb2.mono Hb.size)
              go_wp2_with fail
              go_ret2
              exact ⟨by rw [hv.out]; rfl, hb3⟩
/-- What is read is the number, or there is none. -/
theorem idT_nat (l : List UInt8) : (∃ u : Nat, natU l = some u ∧ idT l = ((u : Int), 0)) ∨ (natU l = none ∧ (idT l).1 = 0 ∧ (idT l).2 ≠ 0) := by
  have hd : digsB l = l.all digU := by
    unfold digsB; congr 1; funext c; unfold digB digU
    by_cases h1 : 48 ≤ c.toNat <;> by_cases h2 : c.toNat ≤ 57 <;> simp [h1, h2] <;> omega
  have h48 : ∀ c : UInt8, c.toNat = 48 ↔ c = 48 := fun c => ⟨fun h => by rw [← UInt8.toNat_inj]; exact h, fun h => by rw [h]; rfl⟩
  unfold idT natU
  rw [hd]
  by_cases h0 : l = []
  · right; simp [h0]
  · by_cases h1 : 1 < l.length ∧ l.headD 0 = 48
    · right
      rw [if_pos (show l = [] ∨ (1 < l.length ∧ (l.headD 0).toNat = 48) from .inr ⟨h1.1, (h48 _).2 h1.2⟩), if_neg h0]
      refine ⟨?_, rfl, by decide⟩
      by_cases h2 : l.all digU = false
      · rw [if_pos h2]
      · rw [if_neg h2, if_pos h1]
    · rw [if_neg (show ¬ (l = [] ∨ (1 < l.length ∧ (l.headD 0).toNat = 48)) from fun h => h.elim h0 fun hh => h1 ⟨hh.1, (h48 _).1 hh.2⟩), if_neg h0]
      by_cases h2 : l.all digU = false
      · right; rw [if_pos h2, if_pos h2]; exact ⟨rfl, rfl, by decide⟩
      · rw [if_neg h2, if_neg h2, if_neg h1]
        have e : valU l = numF 0 l := rfl
        by_cases h3 : valU l ≤ 4503599627370496
        · left; exact ⟨valU l, by rw [if_pos h3], by rw [e] at h3 ⊢; rw [if_neg (by omega)]⟩
        · right; rw [if_neg h3, e] at *; rw [if_pos (by omega)]; exact ⟨rfl, rfl, by decide⟩
end Go.Proofs.YtidffjlpldalpaaGreatDoor
