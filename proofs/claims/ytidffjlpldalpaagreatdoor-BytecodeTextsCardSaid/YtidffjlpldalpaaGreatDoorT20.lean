/- lexer.Unquote: the text of a literal. The reference's literal and Unquote. -/
import Derived.Test.YtidffjlpldalpaaGreatDoorT18
import Derived.Test.YtidffjlpldalpaaGreatDoorT19
set_option linter.unusedVariables false
set_option linter.unusedSimpArgs false
namespace Go.Proofs.YtidffjlpldalpaaGreatDoor
open Go Go.RowKit

def UnqAns (s : ByteArray) (w : World) (e : Ending) (w' : World) : Prop :=
  ∃ (t : ByteArray) (er : Int), e = .returned (.tuple #[.string t, .int .i64 er]) ∧ Below w.heap.size w w' ∧ unqU s.data.toList = if er = 0 then some t.data.toList else none
theorem unq_long (l : List UInt8) (h : 32770 < l.length) : unqU l = none := by
  cases hu : unqU l with
  | none => rfl
  | some t =>
    exfalso
    obtain ⟨h1, _, h3⟩ := unq_inv hu
    have := escU_len t
    rw [h1, List.length_cons, List.length_append, List.length_singleton] at h; omega
theorem unqU_cons (c : UInt8) (r : List UInt8) : unqU (c :: r) = if c = 34 then (match litU r with | some (t, []) => if t.length ≤ 16384 then some t else none | _ => none) else none := rfl
theorem unq_first (l : List UInt8) (h : l.headD 0 ≠ 34) : unqU l = none := by
  cases l with
  | nil => rfl
  | cons c r => rw [unqU_cons, if_neg (show ¬ c = 34 from h)]
theorem unq_lit (l t r : List UInt8) (hl : l.headD 0 = 34) (h : litU (l.drop 1) = some (t, r)) : unqU l = if r = [] ∧ t.length ≤ 16384 then some t else none := by
  cases l with
  | nil => exact absurd hl (by decide)
  | cons c x =>
    have hc : c = 34 := hl
    have h' : litU x = some (t, r) := h
    rw [unqU_cons, if_pos hc, h']
    cases r with
    | nil => simp
    | cons d q => simp
theorem unq_none (l : List UInt8) (h : litU (l.drop 1) = none) : unqU l = none := by
  cases l with
  | nil => rfl
  | cons c x =>
    have h' : litU x = none := h
    rw [unqU_cons, h']; split <;> rfl
theorem head_get (s : ByteArray) (h : 0 < s.size) : s.data.toList.headD 0 = s[0] := by
  have := drop_next s 0 h
  rw [List.drop_zero] at this; rw [this]; rfl
set_option maxHeartbeats 1000000 in
set_option maxRecDepth 100000 in
theorem unquote_any (s : ByteArray) (w : World) : Calls Tryz.prog 66 #[.string s] w (UnqAns s w) := by
  by_cases hs : 32770 < s.size
  · have hE := Lib.hid (unq_long s.data.toList (by rw [data_len]; exact hs))
    go_enter Tryz.func66, Tryz.ntmps66
    go_wp2_with fail
    go_ret2
    exact ⟨_, _, rfl, Below.refl _ _, hE.out⟩
  · by_cases h0 : s.size = 0
    · have hn := tl_nil s h0
      have hnil : s.data.toList = [] := List.length_eq_zero_iff.1 (by rw [data_len]; exact h0)
      have hE : Hid (unqU s.data.toList = none) := by show _ = _; rw [hnil]; rfl
      clear hnil
      go_enter Tryz.func66, Tryz.ntmps66
      go_wp2_with fail
      go_ret2
      exact ⟨_, _, rfl, Below.refl _ _, hE.out⟩
    · have hn := tl_ne s h0
      have hn2 := tl_ne2 s h0
      have hp : 0 < s.size := by omega
      have hh := head_get s hp
      obtain ⟨u0, u1⟩ := ub s[0]
      by_cases c34 : s[0] = 34
      · have q34 : (s[0].toNat : Int) = 34 := by rw [c34]; rfl
        have HL := Lib.hid (literal_any s w (by omega) (by omega))
        have Hh : Hid (s.data.toList.headD 0 = 34) := hh.trans c34
        have Hd := Lib.hid (data_len s)
        clear hh
        go_enter Tryz.func66, Tryz.ntmps66
        go_wp2_with fail
        refine HL.out.mono ?_
        rintro e w1 ⟨t, n, a, er, rfl, hb, hy, hx⟩
        by_cases her : er = 0
        · subst her
          obtain ⟨r, hr, rfl⟩ := hy rfl
          have hU := unq_lit _ _ _ Hh.out hr
          have htl := data_len t
          by_cases hr0 : r = []
          · subst hr0
            by_cases htz : t.size ≤ 16384
            · have HU : Hid (unqU s.data.toList = some t.data.toList) := by show _ = _; rw [hU, if_pos ⟨rfl, by rw [htl]; exact htz⟩]
              clear hy hx hr hU htl
              go_wp2_with fail
              go_ret2
              exact ⟨_, _, rfl, hb, HU.out⟩
            · have HU : Hid (unqU s.data.toList = none) := by show _ = _; rw [hU, if_neg (fun h => htz (by have := h.2; rw [htl] at this; exact this))]
              clear hy hx hr hU htl
              go_wp2_with fail
              go_ret2
              exact ⟨_, _, rfl, hb, HU.out⟩
          · have HU : Hid (unqU s.data.toList = none) := by show _ = _; rw [hU, if_neg (fun h => hr0 h.1)]
            have hrl : 0 < r.length := List.length_pos_iff.2 hr0
            have hrl2 : ((s.size : Int) - (r.length : Int) == (s.size : Int)) = false := beq_eq_false_iff_ne.2 (by omega)
            clear hy hx hr hU htl
            go_wp2_with fail
            go_ret2
            exact ⟨_, _, rfl, hb, HU.out⟩
        · have HU := Lib.hid (unq_none _ (hx her))
          have her2 : (er == 0) = false := beq_eq_false_iff_ne.2 her
          clear hy hx
          go_wp2_with fail
          go_ret2
          exact ⟨_, _, rfl, hb, HU.out⟩
      · have e34 : ((s[0].toNat : Int) == 34) = false := u8_ne s[0] 34 (by decide) c34
        have hE := Lib.hid (unq_first s.data.toList (by rw [hh]; exact c34))
        clear hh
        go_enter Tryz.func66, Tryz.ntmps66
        go_wp2_with fail
        go_ret2
        exact ⟨_, _, rfl, Below.refl _ _, hE.out⟩

def LitR (s : ByteArray) (w : World) (e : Ending) (w' : World) : Prop :=
  ∃ (t : ByteArray) (n er a : Int), e = .returned (.tuple #[.string t, .int .i64 n, .int .i64 er, .int .i64 a]) ∧ w' = w ∧ (er = 0 → ∃ r, litU (s.data.toList.drop 1) = some (t.data.toList, r) ∧ n = (s.size : Int) - (r.length : Int)) ∧ (er ≠ 0 → litU (s.data.toList.drop 1) = none) ∧ t.size ≤ s.size
theorem bne_of {a b : Int} (h : (a == b) = false) : (a != b) = true := by simp only [bne, h]; rfl
theorem bne_no {a b : Int} (h : a = b) : (a != b) = false := by subst h; simp
set_option maxHeartbeats 2000000 in
set_option maxRecDepth 100000 in
theorem rliteral_any (s : ByteArray) (w : World) (hs : s.size ≤ 1000000) (h1 : 1 ≤ s.size) :
    Calls Tryz.prog 69 #[.string s] w (LitR s w) := by
  go_enter Tryz.func69, Tryz.ntmps69
  go_wp2_with fail
  go_loopw [6, 7] (fun o i wr => ∃ (k : Nat) (S : ByteArray), 1 ≤ k ∧ k ≤ s.size ∧ S.size + 1 ≤ k ∧ i = .int .i64 k ∧ o = .string S ∧ Hid (litU (s.data.toList.drop 1) = (litU (s.data.toList.drop k)).map (preM S.data.toList)) ∧ wr = w) (fun o i _ => s.size - (intOf i).toNat)
  case atStart => exact ⟨1, _, Nat.le_refl 1, h1, by decide, rfl, rfl, by show _ = _; cases litU (s.data.toList.drop 1) <;> rfl, rfl⟩
  case round =>
    obtain ⟨k, S, hk1, hk, hS, rfl, rfl, HL, rfl⟩ := hrel
    rename World => V
    by_cases hlt : k < s.size
    · obtain ⟨u0, u1⟩ := ub s[k]
      have hL := HL.out
      rw [drop_next s k hlt] at hL
      have a1 : ∀ b : UInt8, (S ++ (⟨#[b]⟩ : ByteArray)).size = S.size + 1 := fun b => by simp only [ByteArray.size_append]; rfl
      have d1 : ∀ b : UInt8, (S ++ (⟨#[b]⟩ : ByteArray)).data.toList = S.data.toList ++ [b] := fun b => by simp [ByteArray.data_append]
      have g2 : ¬ (9223372036854775807 < S.size + 1) := by omega
      by_cases c34 : s[k] = 34
      · rw [c34] at hL
        have HG := Lib.hid (lit_good hL)
        have q34 : (s[k].toNat : Int) = 34 := by rw [c34]; rfl
        have n34 := bne_no q34
        have hke : ((k : Int) == (s.size : Int)) = false := beq_eq_false_iff_ne.2 (by omega)
        clear hL HL a1 d1
        go_wp2_with fail
        refine bodyPost_ret (results_tmp4 rfl _ _ _) rfl ?_
        exact ⟨_, _, _, _, rfl, rfl, fun _ => ⟨_, HG.out, by simp; omega⟩, fun h => absurd rfl h, by omega⟩
      · have e34 : ((s[k].toNat : Int) == 34) = false := u8_ne s[k] 34 (by decide) c34
        have n34 := bne_of e34
        by_cases c92 : s[k] = 92
        · rw [c92] at hL
          have q92 : (s[k].toNat : Int) = 92 := by rw [c92]; rfl
          have n92 : ((92 : Int) != 34) = true := rfl
          clear e34
          by_cases hk2 : k + 1 < s.size
          · obtain ⟨d0, d2⟩ := ub s[k + 1]
            have hke : ((k : Int) + 1 == (s.size : Int)) = false := beq_eq_false_iff_ne.2 (by omega)
            rw [drop_next s (k + 1) hk2] at hL
            by_cases d110 : s[k + 1] = 110
            · rw [d110] at hL
              have HN := Lib.hid (lit_esc2 hL)
              rw [← d1] at HN
              have hz := a1 10
              have qd : (s[k + 1].toNat : Int) = 110 := by rw [d110]; rfl
              clear hL HL a1 d1
              go_wp2_with fail
              go_round
              case rel => exact ⟨k + 2, _, by omega, by omega, by omega, by go_num, rfl, HN, trivial⟩
              case measure => simp [intOf]; omega
            · have f110 : ((s[k + 1].toNat : Int) == 110) = false := u8_ne s[k + 1] 110 (by decide) d110
              by_cases d34 : s[k + 1] = 34
              · rw [d34] at hL
                have HN := Lib.hid (lit_esc1 hL (.inl rfl))
                rw [← d1] at HN
                have hz := a1 34
                have qd : (s[k + 1].toNat : Int) = 34 := by rw [d34]; rfl
                clear hL HL f110 a1 d1
                go_wp2_with fail
                go_round
                case rel => exact ⟨k + 2, _, by omega, by omega, by omega, by go_num, rfl, HN, trivial⟩
                case measure => simp [intOf]; omega
              · have f34 : ((s[k + 1].toNat : Int) == 34) = false := u8_ne s[k + 1] 34 (by decide) d34
                by_cases d92 : s[k + 1] = 92
                · rw [d92] at hL
                  have HN := Lib.hid (lit_esc1 hL (.inr rfl))
                  rw [← d1] at HN
                  have hz := a1 92
                  have qd : (s[k + 1].toNat : Int) = 92 := by rw [d92]; rfl
                  clear hL HL f34 f110 a1 d1
                  go_wp2_with fail
                  go_round
                  case rel => exact ⟨k + 2, _, by omega, by omega, by omega, by go_num, rfl, HN, trivial⟩
                  case measure => simp [intOf]; omega
                · have f92 : ((s[k + 1].toNat : Int) == 92) = false := u8_ne s[k + 1] 92 (by decide) d92
                  have HE := Lib.hid (lit_bad2 hL d34 d92 d110)
                  clear hL HL a1 d1
                  go_wp2_with fail
                  refine bodyPost_ret (results_tmp4 rfl _ _ _) rfl ?_
                  exact ⟨_, _, _, _, rfl, rfl, fun h => absurd h (by decide), fun _ => HE.out, Nat.zero_le _⟩
          · have hke : ((k : Int) + 1 == (s.size : Int)) = true := beq_iff_eq.2 (by omega)
            have hnil : s.data.toList.drop (k + 1) = [] := List.drop_eq_nil_of_le (by rw [data_len]; omega)
            rw [hnil] at hL
            have HE := Lib.hid (lit_bad3 hL)
            clear hL HL hnil a1 d1
            go_wp2_with fail
            refine bodyPost_ret (results_tmp4 rfl _ _ _) rfl ?_
            exact ⟨_, _, _, _, rfl, rfl, fun h => absurd h (by decide), fun _ => HE.out, Nat.zero_le _⟩
        · have e92 : ((s[k].toNat : Int) == 92) = false := u8_ne s[k] 92 (by decide) c92
          by_cases hv : 32 ≤ s[k].toNat ∧ s[k].toNat ≤ 126
          · have HN := Lib.hid (lit_get hL c34 c92 hv)
            obtain ⟨hv1, hv2⟩ := hv
            have hx := slice_one s k hlt
            have hz1 : (s.extract k (k + 1)).size = 1 := by have := congrArg List.length hx; rw [data_len] at this; exact this
            have hz : (S ++ s.extract k (k + 1)).size = S.size + 1 := by simp only [ByteArray.size_append, hz1]
            rw [show S.data.toList ++ [s[k]] = (S ++ s.extract k (k + 1)).data.toList by rw [ByteArray.data_append, Array.toList_append, hx]] at HN
            have v1 : ¬ ((s[k].toNat : Int) < 32) := by omega
            have v2 : ¬ (126 < (s[k].toNat : Int)) := by omega
            clear hL HL hx a1 d1
            go_wp2_with fail
            go_round
            case rel => exact ⟨k + 1, _, by omega, by omega, by omega, by go_num, rfl, HN, trivial⟩
            case measure => simp [intOf]; omega
          · have HE := Lib.hid (lit_bad1 hL c34 c92 hv)
            clear hL HL a1 d1
            by_cases v1 : (s[k].toNat : Int) < 32
            · go_wp2_with fail
              refine bodyPost_ret (results_tmp4 rfl _ _ _) rfl ?_
              exact ⟨_, _, _, _, rfl, rfl, fun h => absurd h (by decide), fun _ => HE.out, Nat.zero_le _⟩
            · have v2 : 126 < (s[k].toNat : Int) := by omega
              go_wp2_with fail
              refine bodyPost_ret (results_tmp4 rfl _ _ _) rfl ?_
              exact ⟨_, _, _, _, rfl, rfl, fun h => absurd h (by decide), fun _ => HE.out, Nat.zero_le _⟩
    · obtain rfl : k = s.size := by omega
      have hL := HL.out
      have hnil : s.data.toList.drop s.size = [] := List.drop_eq_nil_of_le (by rw [data_len]; exact Nat.le_refl _)
      rw [hnil] at hL
      have HE := Lib.hid (lit_bad4 hL)
      clear hL HL hnil
      go_wp2_with fail
      refine bodyPost_ret (results_tmp4 rfl _ _ _) rfl ?_
      exact ⟨_, _, _, _, rfl, rfl, fun h => absurd h (by decide), fun _ => HE.out, Nat.zero_le _⟩
def UnqR (s : ByteArray) (w : World) (e : Ending) (w' : World) : Prop :=
  ∃ (t : ByteArray) (ok : Bool), e = .returned (.tuple #[.string t, .bool ok]) ∧ w' = w ∧ unqU s.data.toList = (if ok = true then some t.data.toList else none) ∧ t.size ≤ 16384 ∧ (ok = false → t.size = 0)
set_option maxHeartbeats 1000000 in
set_option maxRecDepth 100000 in
theorem runquote_any (s : ByteArray) (w : World) (hs : s.size ≤ 1000000) : Calls Tryz.prog 43 #[.string s] w (UnqR s w) := by
  by_cases h0 : s.size = 0
  · have hn := tl_nil s h0
    have hnil : s.data.toList = [] := List.length_eq_zero_iff.1 (by rw [data_len]; exact h0)
    have hE : Hid (unqU s.data.toList = none) := by show _ = _; rw [hnil]; rfl
    clear hnil
    go_enter Tryz.func43, Tryz.ntmps43
    go_wp2_with fail
    go_ret2
    exact ⟨_, _, rfl, rfl, hE.out, Nat.zero_le _, fun _ => rfl⟩
  · have hn := tl_ne s h0
    have hn2 := tl_ne2 s h0
    have hp : 0 < s.size := by omega
    have hh := head_get s hp
    obtain ⟨u0, u1⟩ := ub s[0]
    by_cases c34 : s[0] = 34
    · have q34 : (s[0].toNat : Int) = 34 := by rw [c34]; rfl
      have n34 := bne_no q34
      have HL := Lib.hid (rliteral_any s w hs (by omega))
      have Hh : Hid (s.data.toList.headD 0 = 34) := hh.trans c34
      have Hd := Lib.hid (data_len s)
      clear hh
      go_enter Tryz.func43, Tryz.ntmps43
      go_wp2_with fail
      refine HL.out.mono ?_
      rintro e w1 ⟨t, n, er, a, rfl, rfl, hy, hx, hts⟩
      by_cases her : er = 0
      · subst her
        obtain ⟨r, hr, rfl⟩ := hy rfl
        have hU := unq_lit _ _ _ Hh.out hr
        have htl := data_len t
        by_cases hr0 : r = []
        · subst hr0
          by_cases htz : t.size ≤ 16384
          · have HU : Hid (unqU s.data.toList = some t.data.toList) := by show _ = _; rw [hU, if_pos ⟨rfl, by rw [htl]; exact htz⟩]
            clear hy hx hr hU htl
            go_wp2_with fail
            go_ret2
            exact ⟨_, _, rfl, rfl, HU.out, htz, fun h => by cases h⟩
          · have HU : Hid (unqU s.data.toList = none) := by show _ = _; rw [hU, if_neg (fun h => htz (by have := h.2; rw [htl] at this; exact this))]
            clear hy hx hr hU htl
            go_wp2_with fail
            go_ret2
            exact ⟨_, _, rfl, rfl, HU.out, Nat.zero_le _, fun _ => rfl⟩
        · have HU : Hid (unqU s.data.toList = none) := by show _ = _; rw [hU, if_neg (fun h => hr0 h.1)]
          have hrl : 0 < r.length := List.length_pos_iff.2 hr0
          have hrl2 : ((s.size : Int) - (r.length : Int) != (s.size : Int)) = true := bne_of (beq_eq_false_iff_ne.2 (by omega))
          clear hy hx hr hU htl
          go_wp2_with fail
          go_ret2
          exact ⟨_, _, rfl, rfl, HU.out, Nat.zero_le _, fun _ => rfl⟩
      · have HU := Lib.hid (unq_none _ (hx her))
        have her2 : (er != 0) = true := bne_of (beq_eq_false_iff_ne.2 her)
        clear hy hx
        go_wp2_with fail
        go_ret2
        exact ⟨_, _, rfl, rfl, HU.out, Nat.zero_le _, fun _ => rfl⟩
    · have e34 : ((s[0].toNat : Int) != 34) = true := bne_of (u8_ne s[0] 34 (by decide) c34)
      have hE := Lib.hid (unq_first s.data.toList (by rw [hh]; exact c34))
      clear hh
      go_enter Tryz.func43, Tryz.ntmps43
      go_wp2_with fail
      go_ret2
      exact ⟨_, _, rfl, rfl, hE.out, Nat.zero_le _, fun _ => rfl⟩
end Go.Proofs.YtidffjlpldalpaaGreatDoor
