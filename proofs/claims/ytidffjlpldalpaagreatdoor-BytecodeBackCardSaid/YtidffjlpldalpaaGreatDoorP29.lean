/- lexer.literal: what stands behind an opening quote. lexer.Unquote: the text of a literal. -/
import Derived.Test.YtidffjlpldalpaaGreatDoorP12
import Derived.Test.YtidffjlpldalpaaGreatDoorP26
import Derived.Test.YtidffjlpldalpaaGreatDoorP24
set_option linter.unusedVariables false
set_option linter.unusedSimpArgs false
namespace Go.Proofs.YtidffjlpldalpaaGreatDoor
open Go Go.RowKit

def LitAns (s : ByteArray) (w : World) (e : Ending) (w' : World) : Prop :=
  ∃ (t : ByteArray) (n a er : Int), e = .returned (.tuple #[.string t, .int .i64 n, .int .i64 a, .int .i64 er]) ∧ Below w.heap.size w w' ∧ (er = 0 → ∃ r, litU (s.data.toList.drop 1) = some (t.data.toList, r) ∧ n = (s.size : Int) - (r.length : Int)) ∧ (er ≠ 0 → litU (s.data.toList.drop 1) = none)
abbrev preM (pre : List UInt8) (x : List UInt8 × List UInt8) : List UInt8 × List UInt8 := (pre ++ x.1, x.2)
theorem lit_get {A : Option (List UInt8 × List UInt8)} {pre l : List UInt8} {c : UInt8} (h : A = (litU (c :: l)).map (preM pre)) (h1 : c ≠ 34) (h2 : c ≠ 92) (h3 : 32 ≤ c.toNat ∧ c.toNat ≤ 126) : A = (litU l).map (preM (pre ++ [c])) := by
  rw [h]
  cases l with
  | nil => unfold litU; rw [if_neg h1]; rfl
  | cons d r =>
    rw [lit_step, if_neg h1, if_neg h2, if_pos h3]
    cases litU (d :: r) with
    | none => rfl
    | some x => simp [preM]
theorem lit_esc1 {A : Option (List UInt8 × List UInt8)} {pre l : List UInt8} {d : UInt8} (h : A = (litU (92 :: d :: l)).map (preM pre)) (hd : d = 34 ∨ d = 92) : A = (litU l).map (preM (pre ++ [d])) := by
  rw [h, lit_step, if_neg (by decide), if_pos rfl, if_pos hd]
  cases litU l with
  | none => rfl
  | some x => simp [preM]
theorem lit_esc2 {A : Option (List UInt8 × List UInt8)} {pre l : List UInt8} (h : A = (litU (92 :: 110 :: l)).map (preM pre)) : A = (litU l).map (preM (pre ++ [10])) := by
  rw [h, lit_step, if_neg (by decide), if_pos rfl, if_neg (by decide), if_pos rfl]
  cases litU l with
  | none => rfl
  | some x => simp [preM]
theorem lit_bad1 {A : Option (List UInt8 × List UInt8)} {pre l : List UInt8} {c : UInt8} (h : A = (litU (c :: l)).map (preM pre)) (h1 : c ≠ 34) (h2 : c ≠ 92) (h3 : ¬ (32 ≤ c.toNat ∧ c.toNat ≤ 126)) : A = none := by
  rw [h]
  cases l with
  | nil => unfold litU; rw [if_neg h1]; rfl
  | cons d r => rw [lit_step, if_neg h1, if_neg h2, if_neg h3]; rfl
theorem lit_bad2 {A : Option (List UInt8 × List UInt8)} {pre l : List UInt8} {d : UInt8} (h : A = (litU (92 :: d :: l)).map (preM pre)) (h1 : d ≠ 34) (h2 : d ≠ 92) (h3 : d ≠ 110) : A = none := by
  rw [h, lit_step, if_neg (by decide), if_pos rfl, if_neg (by rintro (e | e); exact h1 e; exact h2 e), if_neg h3]; rfl
theorem lit_bad3 {A : Option (List UInt8 × List UInt8)} {pre : List UInt8} (h : A = (litU [92]).map (preM pre)) : A = none := by rw [h]; rfl
theorem lit_bad4 {A : Option (List UInt8 × List UInt8)} {pre : List UInt8} (h : A = (litU []).map (preM pre)) : A = none := by rw [h]; rfl
theorem lit_good {A : Option (List UInt8 × List UInt8)} {pre l : List UInt8} (h : A = (litU (34 :: l)).map (preM pre)) : A = some (pre, l) := by rw [h, lit_end]; simp [preM]
theorem data_len (s : ByteArray) : s.data.toList.length = s.size := Array.length_toList
theorem drop_next (s : ByteArray) (k : Nat) (h : k < s.size) : s.data.toList.drop k = s[k] :: s.data.toList.drop (k + 1) := by
  rw [List.drop_eq_getElem_cons (by simpa using h)]; rfl
theorem u8_ne (b : UInt8) (n : Nat) (hn : n < 256) (h : b ≠ UInt8.ofNat n) : ((b.toNat : Int) == (n : Int)) = false := by rw [u8_of b n hn]; simpa using h
theorem results_tmp4 {fn : Func} {t u v x : Tmp} (h : fn.results = #[.tmp t, .tmp u, .tmp v, .tmp x]) (tmps : Array Value) (P : Program) (w : World) :
    (results fn tmps).run P w = .ok (.tuple #[tmps.getD t undef, tmps.getD u undef, tmps.getD v undef, tmps.getD x undef]) w := by
  simp [results, h]
set_option maxHeartbeats 2000000 in
set_option maxRecDepth 100000 in
theorem literal_any (s : ByteArray) (w : World) (hs : s.size ≤ 40000) (h1 : 1 ≤ s.size) :
    Calls Tryz.prog 81 #[.string s] w (LitAns s w) := by
  have HB1 : Hid (Lib.IsBuilder 52 5 w.heap.size w.heap.size (Lib.byteCells []) (w.alloc (.cells #[.pointer none, .slice none 0 0] 52))) := bld_fresh w _ (Nat.le_refl _)
  have hb1 : Below w.heap.size w (w.alloc (.cells #[.pointer none, .slice none 0 0] 52)) := (Below.refl _ _).alloc (Nat.le_refl _) _
  go_enter Tryz.func81, Tryz.ntmps81
  go_wp2_with fail
  generalize w.alloc (.cells #[.pointer none, .slice none 0 0] 52) = w1 at *
  go_loopw [7] (fun i wr => (∃ (k : Nat) (pre : List UInt8), 1 ≤ k ∧ k ≤ s.size ∧ pre.length ≤ k ∧ i = .int .i64 k ∧ Hid (litU (s.data.toList.drop 1) = (litU (s.data.toList.drop k)).map (preM pre)) ∧ Hid (Lib.IsBuilder 52 5 w.heap.size w.heap.size (Lib.byteCells pre) wr)) ∧ Below w.heap.size w wr) (fun i _ => s.size - (intOf i).toNat)
  case atStart => exact ⟨⟨1, [], Nat.le_refl 1, h1, Nat.zero_le _, rfl, by show _ = _; cases litU (s.data.toList.drop 1) <;> rfl, HB1⟩, hb1⟩
  case round =>
    clear HB1 hb1 w1
    rename World => V
    obtain ⟨⟨k, pre, hk1, hk, hpl, rfl, HL, HB⟩, hbr⟩ := hrel
    have hwz := hbr.size
    by_cases hlt : k < s.size
    · obtain ⟨u0, u1⟩ := ub s[k]
      have hL := HL.out
      rw [drop_next s k hlt] at hL
      by_cases c34 : s[k] = 34
      · rw [c34] at hL
        have HG := Lib.hid (lit_good hL)
        have q34 : (s[k].toNat : Int) = 34 := by rw [c34]; rfl
        clear hL HL
        go_wp2_with fail
        refine (Tryz.Builder_String_any _ _ pre _ HB.out hwz).mono ?_
        rintro e w4 ⟨rfl, hb4⟩
        go_wp2_with fail
        try simp only [Exit.inBlock, Exit.then]
        refine bodyPost_ret (results_tmp4 rfl _ _ _) rfl ?_
        exact ⟨_, _, _, _, rfl, hbr.trans hb4, fun _ => ⟨_, HG.out, by simp; omega⟩, fun h => absurd rfl h⟩
      · have e34 : ((s[k].toNat : Int) == 34) = false := u8_ne s[k] 34 (by decide) c34
        by_cases c92 : s[k] = 92
        · rw [c92] at hL
          have q92 : (s[k].toNat : Int) = 92 := by rw [c92]; rfl
          clear e34
          by_cases hk2 : k + 1 < s.size
          · obtain ⟨d0, d1⟩ := ub s[k + 1]
            rw [drop_next s (k + 1) hk2] at hL
            by_cases d34 : s[k + 1] = 34
            · rw [d34] at hL
              have HN := Lib.hid (lit_esc1 hL (.inl rfl))
              have qd : (s[k + 1].toNat : Int) = 34 := by rw [d34]; rfl
              clear hL HL
              go_wp2_with fail
              refine (bld_WriteByte w.heap.size w.heap.size _ _ _ HB.out (by rw [cellsLen]; omega) hwz).mono ?_
              rintro e w3 ⟨rfl, hbd, hb3, _⟩
              have HB3 : Hid (Lib.IsBuilder 52 5 w.heap.size w.heap.size (Lib.byteCells (pre ++ [34])) w3) := .inr (by have h := hbd; rw [Lib.byteCells_append]; exact h)
              clear hbd
              go_wp2_with fail
              go_round
              case rel => exact ⟨⟨k + 2, pre ++ [34], by omega, by omega, by simp; omega, by go_num, HN.out, HB3⟩, hbr.trans hb3⟩
              case measure => simp [intOf]; omega
            · have f34 : ((s[k + 1].toNat : Int) == 34) = false := u8_ne s[k + 1] 34 (by decide) d34
              by_cases d92 : s[k + 1] = 92
              · rw [d92] at hL
                have HN := Lib.hid (lit_esc1 hL (.inr rfl))
                have qd : (s[k + 1].toNat : Int) = 92 := by rw [d92]; rfl
                clear hL HL f34
                go_wp2_with fail
                refine (bld_WriteByte w.heap.size w.heap.size _ _ _ HB.out (by rw [cellsLen]; omega) hwz).mono ?_
                rintro e w3 ⟨rfl, hbd, hb3, _⟩
                have HB3 : Hid (Lib.IsBuilder 52 5 w.heap.size w.heap.size (Lib.byteCells (pre ++ [92])) w3) := .inr (by have h := hbd; rw [Lib.byteCells_append]; exact h)
                clear hbd
                go_wp2_with fail
                go_round
                case rel => exact ⟨⟨k + 2, pre ++ [92], by omega, by omega, by simp; omega, by go_num, HN.out, HB3⟩, hbr.trans hb3⟩
                case measure => simp [intOf]; omega
              · have f92 : ((s[k + 1].toNat : Int) == 92) = false := u8_ne s[k + 1] 92 (by decide) d92
                by_cases d110 : s[k + 1] = 110
                · rw [d110] at hL
                  have HN := Lib.hid (lit_esc2 hL)
                  have qd : (s[k + 1].toNat : Int) = 110 := by rw [d110]; rfl
                  clear hL HL f34 f92
                  go_wp2_with fail
                  refine (bld_WriteByte w.heap.size w.heap.size _ _ _ HB.out (by rw [cellsLen]; omega) hwz).mono ?_
                  rintro e w3 ⟨rfl, hbd, hb3, _⟩
                  have HB3 : Hid (Lib.IsBuilder 52 5 w.heap.size w.heap.size (Lib.byteCells (pre ++ [10])) w3) := .inr (by have h := hbd; rw [Lib.byteCells_append]; exact h)
                  clear hbd
                  go_wp2_with fail
                  go_round
                  case rel => exact ⟨⟨k + 2, pre ++ [10], by omega, by omega, by simp; omega, by go_num, HN.out, HB3⟩, hbr.trans hb3⟩
                  case measure => simp [intOf]; omega
                · have f110 : ((s[k + 1].toNat : Int) == 110) = false := u8_ne s[k + 1] 110 (by decide) d110
                  have HE := Lib.hid (lit_bad2 hL d34 d92 d110)
                  clear hL HL
                  go_wp2_with fail
                  try simp only [Exit.inBlock, Exit.then]
                  refine bodyPost_ret (results_tmp4 rfl _ _ _) rfl ?_
                  exact ⟨_, _, _, _, rfl, hbr, fun h => absurd h (by decide), fun _ => HE.out⟩
          · have hke : k + 1 = s.size := by omega
            have hkn : ((k : Int) + 1 < (s.size : Int)) = False := eq_false (by omega)
            have hnil : s.data.toList.drop (k + 1) = [] := List.drop_eq_nil_of_le (by rw [data_len]; omega)
            rw [hnil] at hL
            have HE := Lib.hid (lit_bad3 hL)
            clear hL HL hnil
            go_wp2_with fail
            try simp only [Exit.inBlock, Exit.then]
            refine bodyPost_ret (results_tmp4 rfl _ _ _) rfl ?_
            exact ⟨_, _, _, _, rfl, hbr, fun h => absurd h (by decide), fun _ => HE.out⟩
        · have e92 : ((s[k].toNat : Int) == 92) = false := u8_ne s[k] 92 (by decide) c92
          obtain ⟨qv, hv⟩ : ∃ q, showB (s[k].toNat : Int) = q := ⟨_, rfl⟩
          have HV := Lib.hid hv
          cases qv
          · have HE := Lib.hid (lit_bad1 hL c34 c92 (by unfold showB at hv; simp at hv; omega))
            clear hL HL hv
            go_wp2_with fail
            refine (visible_any _ _ u0 u1).mono ?_
            rintro e w' ⟨rfl, rfl⟩
            rw [HV.out]
            go_wp2_with fail
            try simp only [Exit.inBlock, Exit.then]
            refine bodyPost_ret (results_tmp4 rfl _ _ _) rfl ?_
            exact ⟨_, _, _, _, rfl, hbr, fun h => absurd h (by decide), fun _ => HE.out⟩
          · have HN := Lib.hid (lit_get hL c34 c92 (by unfold showB at hv; simp at hv; omega))
            clear hL HL hv
            go_wp2_with fail
            refine (visible_any _ _ u0 u1).mono ?_
            rintro e w' ⟨rfl, rfl⟩
            rw [HV.out]
            go_wp2_with fail
            refine (bld_WriteByte w.heap.size w.heap.size _ _ _ HB.out (by rw [cellsLen]; omega) hwz).mono ?_
            rintro e w3 ⟨rfl, hbd, hb3, _⟩
            have HB3 : Hid (Lib.IsBuilder 52 5 w.heap.size w.heap.size (Lib.byteCells (pre ++ [s[k]])) w3) := .inr (by have h := hbd; rw [Lib.byteCells_append]; exact h)
            clear hbd
            go_wp2_with fail
            go_round
            case rel => exact ⟨⟨k + 1, pre ++ [s[k]], by omega, by omega, by simp; omega, by go_num, HN.out, HB3⟩, hbr.trans hb3⟩
            case measure => simp [intOf]; omega
    · obtain rfl : k = s.size := by omega
      have hL := HL.out
      have hnil : s.data.toList.drop s.size = [] := List.drop_eq_nil_of_le (by rw [data_len]; exact Nat.le_refl _)
      rw [hnil] at hL
      have HE := Lib.hid (lit_bad4 hL)
      clear hL HL hnil
      go_wp2_with fail
      try simp only [Exit.inBlock, Exit.then]
      refine bodyPost_ret (results_tmp4 rfl _ _ _) rfl ?_
      exact ⟨_, _, _, _, rfl, hbr, fun h => absurd h (by decide), fun _ => HE.out⟩

def UnqAns (s : ByteArray) (w : World) (e : Ending) (w' : World) : Prop :=
  ∃ (t : ByteArray) (er : Int), e = .returned (.tuple #[.string t, .int .i64 er]) ∧ Below w.heap.size w w' ∧ unqU s.data.toList = if er = 0 then some t.data.toList else none
theorem unq_long (l : List UInt8) (h : 32770 < l.length) : unqU l = none := by
  cases hu : unqU l with
  | none => rfl
  | some t =>
    exfalso
    obtain ⟨h1, _, h3⟩ := unq_inv hu
    have := escU_len t
    rw [h1, List.length_cons, List.length_append, List.length_singleton] at h; omega
theorem unqU_cons (c : UInt8) (r : List UInt8) : unqU (c :: r) = if c = 34 then (match litU r with | some (t, []) => if t.length ≤ 16384 then some t else none | _ => none) else none := rfl
theorem unq_first (l : List UInt8) (h : l.headD 0 ≠ 34) : unqU l = none := by
  cases l with
  | nil => rfl
  | cons c r => rw [unqU_cons, if_neg (show ¬ c = 34 from h)]
theorem unq_lit (l t r : List UInt8) (hl : l.headD 0 = 34) (h : litU (l.drop 1) = some (t, r)) : unqU l = if r = [] ∧ t.length ≤ 16384 then some t else none := by
  cases l with
  | nil => exact absurd hl (by decide)
  | cons c x =>
    have hc : c = 34 := hl
    have h' : litU x = some (t, r) := h
    rw [unqU_cons, if_pos hc, h']
    cases r with
    | nil => simp
    | cons d q => simp
theorem unq_none (l : List UInt8) (h : litU (l.drop 1) = none) : unqU l = none := by
  cases l with
  | nil => rfl
  | cons c x =>
    have h' : litU x = none := h
    rw [unqU_cons, h']; split <;> rfl
theorem head_get (s : ByteArray) (h : 0 < s.size) : s.data.toList.headD 0 = s[0] := by
  have := drop_next s 0 h
  rw [List.drop_zero] at this; rw [this]; rfl
set_option maxHeartbeats 1000000 in
set_option maxRecDepth 100000 in
theorem unquote_any (s : ByteArray) (w : World) : Calls Tryz.prog 66 #[.string s] w (UnqAns s w) := by
  by_cases hs : 32770 < s.size
  · have hE := Lib.hid (unq_long s.data.toList (by rw [data_len]; exact hs))
    go_enter Tryz.func66, Tryz.ntmps66
    go_wp2_with fail
    go_ret2
    exact ⟨_, _, rfl, Below.refl _ _, hE.out⟩
  · by_cases h0 : s.size = 0
    · have hn := tl_nil s h0
      have hnil : s.data.toList = [] := List.length_eq_zero_iff.1 (by rw [data_len]; exact h0)
      have hE : Hid (unqU s.data.toList = none) := by show _ = _; rw [hnil]; rfl
      clear hnil
      go_enter Tryz.func66, Tryz.ntmps66
      go_wp2_with fail
      go_ret2
      exact ⟨_, _, rfl, Below.refl _ _, hE.out⟩
    · have hn := tl_ne s h0
      have hn2 := tl_ne2 s h0
      have hp : 0 < s.size := by omega
      have hh := head_get s hp
      obtain ⟨u0, u1⟩ := ub s[0]
      by_cases c34 : s[0] = 34
      · have q34 : (s[0].toNat : Int) = 34 := by rw [c34]; rfl
        have HL := Lib.hid (literal_any s w (by omega) (by omega))
        have Hh : Hid (s.data.toList.headD 0 = 34) := hh.trans c34
        have Hd := Lib.hid (data_len s)
        clear hh
        go_enter Tryz.func66, Tryz.ntmps66
        go_wp2_with fail
        refine HL.out.mono ?_
        rintro e w1 ⟨t, n, a, er, rfl, hb, hy, hx⟩
        by_cases her : er = 0
        · subst her
          obtain ⟨r, hr, rfl⟩ := hy rfl
          have hU := unq_lit _ _ _ Hh.out hr
          have htl := data_len t
          by_cases hr0 : r = []
          · subst hr0
            by_cases htz : t.size ≤ 16384
            · have HU : Hid (unqU s.data.toList = some t.data.toList) := by show _ = _; rw [hU, if_pos ⟨rfl, by rw [htl]; exact htz⟩]
              clear hy hx hr hU htl
              go_wp2_with fail
              go_ret2
              exact ⟨_, _, rfl, hb, HU.out⟩
            · have HU : Hid (unqU s.data.toList = none) := by show _ = _; rw [hU, if_neg (fun h => htz (by have := h.2; rw [htl] at this; exact this))]
              clear hy hx hr hU htl
              go_wp2_with fail
              go_ret2
              exact ⟨_, _, rfl, hb, HU.out⟩
          · have HU : Hid (unqU s.data.toList = none) := by show _ = _; rw [hU, if_neg (fun h => hr0 h.1)]
            have hrl : 0 < r.length := List.length_pos_iff.2 hr0
            have hrl2 : ((s.size : Int) - (r.length : Int) == (s.size : Int)) = false := beq_eq_false_iff_ne.2 (by omega)
            clear hy hx hr hU htl
            go_wp2_with fail
            go_ret2
            exact ⟨_, _, rfl, hb, HU.out⟩
        · have HU := Lib.hid (unq_none _ (hx her))
          have her2 : (er == 0) = false := beq_eq_false_iff_ne.2 her
          clear hy hx
          go_wp2_with fail
          go_ret2
          exact ⟨_, _, rfl, hb, HU.out⟩
      · have e34 : ((s[0].toNat : Int) == 34) = false := u8_ne s[0] 34 (by decide) c34
        have hE := Lib.hid (unq_first s.data.toList (by rw [hh]; exact c34))
        clear hh
        go_enter Tryz.func66, Tryz.ntmps66
        go_wp2_with fail
        go_ret2
        exact ⟨_, _, rfl, Below.refl _ _, hE.out⟩
end Go.Proofs.YtidffjlpldalpaaGreatDoor
