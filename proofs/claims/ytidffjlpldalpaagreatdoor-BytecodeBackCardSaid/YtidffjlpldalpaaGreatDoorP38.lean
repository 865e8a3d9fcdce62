/- BytecodeBack: the walk. -/
import Derived.Test.YtidffjlpldalpaaGreatDoorP35
import Derived.Test.YtidffjlpldalpaaGreatDoorP37
import Derived.Test.YtidffjlpldalpaaGreatDoorP18
import Derived.Test.YtidffjlpldalpaaGreatDoorP14
import Derived.Test.YtidffjlpldalpaaGreatDoorP11
set_option linter.unusedVariables false
set_option linter.unusedSimpArgs false
namespace Go.Proofs.YtidffjlpldalpaaGreatDoor
open Go Go.RowKit

set_option maxRecDepth 100000 in
theorem none_any (fv tv : Value) (p : ProgD) (w : World) (h : IsProg w fv tv p) (hz : strip p = zeroS) : Calls Tryz.prog 16 #[.agg #[fv, tv, .int .i64 p.main]] w fun e w' => e = .returned (.bool true) ∧ Below w.heap.size w w' := by
  have hb : Below w.heap.size w (w.alloc (.cells #[fv, tv, .int .i64 p.main] 25)) := (Below.refl _ _).alloc (Nat.le_refl _) _
  have g0 : ∀ o v, (#[fv, tv, .int .i64 p.main] : Array Value)[o]? = some v → (w.alloc (.cells #[fv, tv, .int .i64 p.main] 25)).cell? ⟨w.heap.size, o, none⟩ = some v := fun o v hv => by rw [cell_new]; exact hv
  have hpf : p.funs = [] ∧ p.texts = [] := by
    simp only [strip, zeroS, ProgS.mk.injEq, List.map_eq_nil_iff] at hz
    exact ⟨hz.1, hz.2.1⟩
  have hf0 : p.funs.length = 0 := by rw [hpf.1]; rfl
  have ht0 : p.texts.length = 0 := by rw [hpf.2]; rfl
  have HS : Hid (∀ w2, Below w.heap.size w w2 → Calls Tryz.prog 13 #[.agg #[fv, tv, .int .i64 p.main], .agg #[.slice none 0 0, .slice none 0 0, .int .i64 0]] w2 fun e w' => e = .returned (.bool true) ∧ Below w2.heap.size w2 w') := fun w2 h2 =>
    sameP_any fv tv (.slice none 0 0) (.slice none 0 0) p ⟨[], [], 0⟩ w2 (h.below h2) (isProg_zero _) (by rw [hz]; rfl) (by omega) (by omega) (fun f hf => by rw [hpf.1] at hf; cases hf)
  clear hf0 ht0 hpf hz
  obtain ⟨fa, fc, ta, tc, rfl, rfl⟩ := isProg_slices h
  go_enter Tryz.func16, Tryz.ntmps16
  go_wp2_with fail
  refine (HS.out _ hb).mono ?_
  rintro e w' ⟨rfl, hb1⟩
  have hbb := hb.trans (hb1.mono hb.size)
  go_wp2_with fail
  go_ret
  exact ⟨rfl, hbb⟩
/-- What the walk needs of the world. -/
structure EnvB (w : World) : Prop where
  env : EnvN w
  tab : ITab w
theorem EnvB.below {w w' : World} (h : EnvB w) (hb : Below w.heap.size w w') : EnvB w' := ⟨h.env.below hb, h.tab.below hb⟩
set_option maxHeartbeats 4000000 in
set_option maxRecDepth 100000 in
theorem back_walk (fv tv : Value) (p : ProgD) (s : ByteArray) (v : Value) (l : List Int) (w : World) (h : IsProg w fv tv p) (hfl : p.funs.length ≤ maxLen) (htl : p.texts.length ≤ maxLen) (hsl : s.size ≤ maxLen) (hv : IsRow w v l.length (u8s l)) (hby : AreBytes l) (hbl : l.length ≤ maxLen) (hE : EnvB w) :
    Calls Tryz.prog 4 #[.agg #[fv, tv, .int .i64 p.main], .string s, v] w fun e w' => e = .returned (.bool true) ∧ Below w.heap.size w w' := by
  have Hp := Lib.hid h
  have Hv := Lib.hid hv
  obtain ⟨va, vc, rfl, hvc, _⟩ := hv
  have hs0 : Below w.heap.size w (w.alloc (.cells #[fv, tv, .int .i64 p.main] 25)) := (Below.refl _ _).alloc (Nat.le_refl _) _
  have hP : (w.alloc (.cells #[fv, tv, .int .i64 p.main] 25)).heap[w.heap.size]? = some (.cells #[fv, tv, .int .i64 p.main] 25 (0, 0)) := new_heap w _
  obtain ⟨fa, fc, ta, tc, rfl, rfl⟩ := isProg_slices h
  have hm : maxLen = 9223372036854775807 := by decide
  rw [hm] at hfl htl hbl hsl
  clear hm
  go_enter Tryz.func4, Tryz.ntmps4
  go_wp2_with fail
  generalize w.alloc (.cells #[.slice fa p.funs.length fc, .slice ta p.texts.length tc, .int .i64 p.main] 25) = W0 at *
  refine (awake_any _).mono ?_
  rintro e w1 ⟨rfl, hb1⟩
  have hbb1 : Below w.heap.size w w1 := hs0.trans (hb1.mono hs0.size)
  have hP1 := (hb1.block _ (heap_lt hP)).trans hP
  obtain ⟨p0, p1, p2⟩ := ins_cells hP1
  have HG := Lib.hid (great_any (.slice fa p.funs.length fc) (.slice ta p.texts.length tc) p w1 (Hp.out.below hbb1) hfl htl)
  clear hs0 hP hb1
  go_wp2_with fail
  refine HG.out.mono ?_
  rintro e w2 ⟨rfl, hb2⟩
  have hbb2 : Below w.heap.size w w2 := hbb1.trans (hb2.mono hbb1.size)
  have hP2 := (hb2.block _ (heap_lt hP1)).trans hP1
  obtain ⟨g, hg⟩ : ∃ g, greatB p = g := ⟨_, rfl⟩
  have Hg := Lib.hid hg
  rw [hg]
  clear hg HG hbb1 hP1 hb2 p0 p1 p2
  cases g
  rotate_left
  · go_wp2_with fail
    go_ret
    exact ⟨rfl, hbb2⟩
  · by_cases hs3 : (3000 : Int) < (s.size : Int)
    · have hs3' : ((3000 : Int) < (s.size : Int)) = True := eq_true hs3
      clear hs3
      go_wp2_with fail
      go_ret
      exact ⟨rfl, hbb2⟩
    · have hs3' : ((3000 : Int) < (s.size : Int)) = False := eq_false hs3
      by_cases hl3 : (3000 : Int) < (l.length : Int)
      · have hl3' : ((3000 : Int) < (l.length : Int)) = True := eq_true hl3
        clear hl3
        go_wp2_with fail
        go_ret
        exact ⟨rfl, hbb2⟩
      · have hl3' : ((3000 : Int) < (l.length : Int)) = False := eq_false hl3
        have Hs : Hid (Small l) := ⟨hby, by omega⟩
        obtain ⟨n1, n2, n3, _⟩ := great_no p Hg.out
        obtain ⟨p0, p1, p2⟩ := ins_cells hP2
        have hEB := hE.below hbb2
        by_cases hval : validB p = true
        · have hlen := textA_len p Hg.out hval
          have HT := Lib.hid (textA_any Num52 (.slice fa p.funs.length fc) (.slice ta p.texts.length tc) p w2 (Hp.out.below hbb2) (by omega) hval (nums52 p hval) (itoa52 w2 hEB.tab) hlen)
          have hpt : parT (textA p) = (strip p, 0) := by rw [textA_strip, par_text (valid_good hval).1]; exact chk_ok _ (by rw [validS_strip]; exact hval)
          have Hpt := Lib.hid hpt
          clear hpt
          go_wp2_with fail
          refine HT.out.mono ?_
          clear HT
          rintro e w3 ⟨rfl, hb3⟩
          have hbb3 := hbb2.trans (hb3.mono hbb2.size)
          have hP3 := (hb3.block _ (heap_lt hP2)).trans hP2
          have HPa := Lib.hid (parse_any ⟨(textA p).toArray⟩ w3 (hE.below hbb3).env (by rw [mk_size]; exact hlen))
          clear p0 p1 p2
          go_wp2_with fail
          refine HPa.out.mono ?_
          clear HPa
          rintro e w4 ⟨fv1, tv1, q1, er1, rfl, hb4, hq1, ht1⟩
          rw [Hpt.out] at ht1
          obtain ⟨fa1, fc1, ta1, tc1, rfl, rfl⟩ := isProg_slices hq1
          obtain ⟨hst1, rfl⟩ := Prod.mk.inj ht1
          have hbb4 := hbb3.trans (hb4.mono hbb3.size)
          have hP4 := (hb4.block _ (heap_lt hP3)).trans hP3
          have hga4 := grown_alloc w4 (.cells #[.slice fa1 q1.funs.length fc1, .slice ta1 q1.texts.length tc1, .int .i64 q1.main] 25)
          have gA4 := new_heap w4 (.cells #[.slice fa1 q1.funs.length fc1, .slice ta1 q1.texts.length tc1, .int .i64 q1.main] 25)
          have hgb4 := grown_under hga4 (Nat.le_refl _) (by nofun)
          have HQ4 := Lib.hid (hq1.below hgb4)
          have hbb5 := hbb4.trans (hgb4.mono hbb4.size)
          have hP5 := (hga4.block _ (heap_lt hP4) (by nofun)).trans hP4
          clear hb4 hq1 hga4 hgb4
          go_upto_region 8 with fail
          generalize hA4 : w4.heap.size = A4 at *
          generalize w4.alloc (.cells #[.slice fa1 q1.funs.length fc1, .slice ta1 q1.texts.length tc1, .int .i64 q1.main] 25) = W4 at *
          obtain ⟨p0, p1, p2⟩ := ins_cells hP5
          have HEn := Lib.hid (encode_any (.slice fa p.funs.length fc) (.slice ta p.texts.length tc) p W4 (Hp.out.below hbb5) (by omega) (by omega) (fun s _ => quoted_any s) (by have := body_len2 p Hg.out; omega))
          go_wp2_with fail
          refine HEn.out.mono ?_
          clear HEn
          rintro e w5 ⟨vE, rfl, hrow, hb5⟩
          rw [enc_yes p hval] at hrow ⊢
          simp only at hrow
          have hbb6 := hbb5.trans (hb5.mono hbb5.size)
          have hP6 := (hb5.block _ (heap_lt hP5)).trans hP5
          have HQ5 := Lib.hid (HQ4.out.below hb5)
          have hgA5 := (hb5.block _ (heap_lt gA4)).trans gA4
          have hSm : Small (encL p) := by
            have hl := body_len2 p Hg.out
            refine ⟨?_, by unfold encL; rw [List.length_append]; simp; omega⟩
            obtain ⟨s0, s1⟩ := sumK_lt (bodyL p) (bodyL p).length
            refine (bodyL_bytes p).append fun y hy => ?_
            simp only [List.mem_cons, List.not_mem_nil, or_false] at hy
            rcases hy with rfl | rfl <;> omega
          have HDe := Lib.hid (decode_any vE (encL p) w5 hSm hrow)
          obtain ⟨ea, ec, rfl, _⟩ := id hrow
          clear p0 p1 p2 hrow hb5
          go_wp2_with fail
          refine HDe.out.mono ?_
          clear HDe
          rintro e w6 ⟨fv2, tv2, q2, er2, rfl, hb6, hq2, ht2⟩
          rw [encL_strip, dec_code (valid_good hval).2, chk_ok _ (by rw [validS_strip]; exact hval)] at ht2
          obtain ⟨hst2, rfl⟩ := Prod.mk.inj ht2
          obtain ⟨fa2, fc2, ta2, tc2, rfl, rfl⟩ := isProg_slices hq2
          have hbb7 := hbb6.trans (hb6.mono hbb6.size)
          have hP7 := (hb6.block _ (heap_lt hP6)).trans hP6
          have HQ6 := Lib.hid (HQ5.out.below hb6)
          have hgA6 := (hb6.block _ (heap_lt hgA5)).trans hgA5
          have hga6 := grown_alloc w6 (.cells #[.slice fa2 q2.funs.length fc2, .slice ta2 q2.texts.length tc2, .int .i64 q2.main] 25)
          have gA7 := new_heap w6 (.cells #[.slice fa2 q2.funs.length fc2, .slice ta2 q2.texts.length tc2, .int .i64 q2.main] 25)
          have hgb6 := grown_under hga6 (Nat.le_refl _) (by nofun)
          have HQ7 := Lib.hid (HQ6.out.below hgb6)
          have HR7 := Lib.hid (hq2.below hgb6)
          have hbb8 := hbb7.trans (hgb6.mono hbb7.size)
          have hP8 := (hga6.block _ (heap_lt hP7) (by nofun)).trans hP7
          have hgA7 := (hga6.block _ (heap_lt hgA6) (by nofun)).trans hgA6
          clear hb6 hq2 hga6 hgb6
          go_upto_region 10 with fail
          generalize hA6 : w6.heap.size = A6 at *
          generalize w6.alloc (.cells #[.slice fa2 q2.funs.length fc2, .slice ta2 q2.texts.length tc2, .int .i64 q2.main] 25) = W6 at *
          have HS1 := Lib.hid (sameP_any (.slice fa p.funs.length fc) (.slice ta p.texts.length tc) (.slice fa1 q1.funs.length fc1) (.slice ta1 q1.texts.length tc1) p q1 W6 (Hp.out.below hbb8) HQ7.out hst1.symm (by omega) (by omega) (fun f hf => by have := n3 f hf; omega))
          obtain ⟨p0, p1, p2⟩ := ins_cells hP8
          obtain ⟨a0, a1, a2⟩ := ins_cells hgA7
          go_wp2_with fail
          refine HS1.out.mono ?_
          clear HS1
          rintro e w7 ⟨rfl, hb7⟩
          have hbb9 := hbb8.trans (hb7.mono hbb8.size)
          have hP9 := (hb7.block _ (heap_lt hP8)).trans hP8
          have gA8 := (hb7.block _ (heap_lt gA7)).trans gA7
          have HS2 := Lib.hid (sameP_any (.slice fa p.funs.length fc) (.slice ta p.texts.length tc) (.slice fa2 q2.funs.length fc2) (.slice ta2 q2.texts.length tc2) p q2 w7 (Hp.out.below hbb9) (HR7.out.below hb7) hst2.symm (by omega) (by omega) (fun f hf => by have := n3 f hf; omega))
          clear p0 p1 p2 a0 a1 a2
          obtain ⟨p0, p1, p2⟩ := ins_cells hP9
          obtain ⟨a0, a1, a2⟩ := ins_cells gA8
          clear hb7
          go_wp2_with fail
          refine HS2.out.mono ?_
          clear HS2
          rintro e w8 ⟨rfl, hb8⟩
          have hbX := hbb9.trans (hb8.mono hbb9.size)
          clear p0 p1 p2 a0 a1 a2 hb8
          go_wp2_with fail
          have hEV := hE.below hbX
          have HPs := Lib.hid (parse_any s w8 hEV.env (by omega))
          refine HPs.out.mono ?_
          clear HPs
          rintro e x1 ⟨fv3, tv3, q3, er3, rfl, hb10, hq3, ht3⟩
          obtain ⟨fa3, fc3, ta3, tc3, rfl, rfl⟩ := isProg_slices hq3
          have hbb10 := (hbX).trans (hb10.mono (hbX).size)
          have hgaX := grown_alloc x1 (.cells #[.slice fa3 q3.funs.length fc3, .slice ta3 q3.texts.length tc3, .int .i64 q3.main] 25)
          have gAX := new_heap x1 (.cells #[.slice fa3 q3.funs.length fc3, .slice ta3 q3.texts.length tc3, .int .i64 q3.main] 25)
          have hgbX := grown_under hgaX (Nat.le_refl _) (by nofun)
          have HQX := Lib.hid (hq3.below hgbX)
          have hbb11 := hbb10.trans (hgbX.mono hbb10.size)
          clear hb10 hq3 hgaX hgbX
          go_upto_region 13 with fail
          generalize hAX : x1.heap.size = AX at *
          generalize x1.alloc (.cells #[.slice fa3 q3.funs.length fc3, .slice ta3 q3.texts.length tc3, .int .i64 q3.main] 25) = X1 at *
          obtain ⟨b0, b1, b2⟩ := ins_cells gAX
          by_cases her : er3 = 0
          · subst her
            obtain ⟨hvs, hts⟩ := text_par ht3.symm
            have hval3 : validB q3 = true := by rw [← validS_strip]; exact hvs
            have htA : textA q3 = s.data.toList := by rw [textA_strip]; exact hts
            have hvp := valid_parts q3 hval3
            have hsd := data_len s
            have HT3 := Lib.hid (textA_any Num52 (.slice fa3 q3.funs.length fc3) (.slice ta3 q3.texts.length tc3) q3 X1 HQX.out (by omega) hval3 (nums52 q3 hval3) (itoa52 X1 (hE.below hbb11).tab) (by rw [htA]; omega))
            unfold TextAOk at HT3
            rw [htA, show (⟨s.data.toList.toArray⟩ : ByteArray) = s from rfl] at HT3
            have hss : (s.toList == s.toList) = true := beq_self_eq_true _
            clear hvp hts htA ht3 hvs
            go_wp2_with fail
            refine HT3.out.mono ?_
            clear HT3
            rintro e x2 ⟨rfl, hb12⟩
            have hbY := hbb11.trans (hb12.mono hbb11.size)
            clear b0 b1 b2 hb12
            go_wp2_with fail
            have HDl := Lib.hid (decode_any _ l x2 Hs.out (Hv.out.below hbY))
            refine HDl.out.mono ?_
            clear HDl
            rintro e x3 ⟨fv4, tv4, q4, er4, rfl, hb13, hq4, ht4⟩
            obtain ⟨fa4, fc4, ta4, tc4, rfl, rfl⟩ := isProg_slices hq4
            have hbb14 := hbY.trans (hb13.mono hbY.size)
            have hgaZ := grown_alloc x3 (.cells #[.slice fa4 q4.funs.length fc4, .slice ta4 q4.texts.length tc4, .int .i64 q4.main] 25)
            have gAZ := new_heap x3 (.cells #[.slice fa4 q4.funs.length fc4, .slice ta4 q4.texts.length tc4, .int .i64 q4.main] 25)
            have hgbZ := grown_under hgaZ (Nat.le_refl _) (by nofun)
            have HQZ := Lib.hid (hq4.below hgbZ)
            have hbb15 := hbb14.trans (hgbZ.mono hbb14.size)
            clear hb13 hq4 hgaZ hgbZ
            go_upto_region 20 with fail
            generalize hAZ : x3.heap.size = AZ at *
            generalize x3.alloc (.cells #[.slice fa4 q4.funs.length fc4, .slice ta4 q4.texts.length tc4, .int .i64 q4.main] 25) = X3 at *
            obtain ⟨z0, z1, z2⟩ := ins_cells gAZ
            by_cases her4 : er4 = 0
            · subst her4
              obtain ⟨hv4, hc4⟩ := code_dec Hs.out.1 ht4.symm
              have hval4 : validB q4 = true := by rw [← validS_strip]; exact hv4
              have hE4 : encL q4 = l := by rw [encL_strip]; exact hc4
              have hbl4 : (bodyL q4).length ≤ 1000000 := by
                have h1 := congrArg List.length hE4
                unfold encL at h1; rw [List.length_append] at h1; omega
              have hvp4 := valid_parts q4 hval4
              have HEz := Lib.hid (encode_any (.slice fa4 q4.funs.length fc4) (.slice ta4 q4.texts.length tc4) q4 X3 HQZ.out (by omega) (by omega) (fun s _ => quoted_any s) hbl4)
              clear ht4 hv4 hc4 hvp4 hbl4
              go_wp2_with fail
              refine HEz.out.mono ?_
              clear HEz
              rintro e x4 ⟨vZ, rfl, hrow, hb16⟩
              rw [enc_yes q4 hval4, hE4] at hrow ⊢
              simp only at hrow
              have hbZ := hbb15.trans (hb16.mono hbb15.size)
              have hvZ := Hv.out.below hbZ
              obtain ⟨ea, ec, rfl, hec, hex⟩ := hrow
              obtain ⟨va', vc', hvv, hvc', hvx⟩ := hvZ
              obtain ⟨e1, e2⟩ : va = va' ∧ vc = vc' := ⟨(Value.slice.inj hvv).1, (Value.slice.inj hvv).2.2⟩
              subst e1 e2
              have HBE := Lib.hid (Tryz.bytes_Equal_all ea va l.length ec l.length vc l l x4 rfl rfl (fun h0 => by
                obtain ⟨b, o, hb, _, hc⟩ := hex h0
                exact ⟨b, o, hb, fun i hi => (hc i (by rw [u8s_length]; exact hi)).trans (congrArg some (u8s_at _ i hi))⟩) (fun h0 => by
                obtain ⟨b, o, hb, _, hc⟩ := hvx h0
                exact ⟨b, o, hb, fun i hi => (hc i (by rw [u8s_length]; exact hi)).trans (congrArg some (u8s_at _ i hi))⟩))
              clear hex hvx hb16 z0 z1 z2
              go_wp2_with fail
              refine HBE.out.mono ?_
              clear HBE
              rintro e x5 ⟨rfl, rfl⟩
              simp only [beq_self_eq_true]
              go_wp2_with fail
              go_ret
              exact ⟨rfl, hbZ⟩
            · have hz4 := dec_none ht4.symm her4
              have HNz := Lib.hid (none_any _ _ q4 X3 HQZ.out hz4)
              have herz : (er4 == 0) = false := beq_eq_false_iff_ne.2 her4
              clear hz4 her4 ht4
              go_wp2_with fail
              refine HNz.out.mono ?_
              clear HNz
              rintro e x4 ⟨rfl, hb16⟩
              have hbZ := hbb15.trans (hb16.mono hbb15.size)
              clear z0 z1 z2 hb16
              go_wp2_with fail
              go_ret
              exact ⟨rfl, hbZ⟩
          · have hz3 := par_none ht3.symm her
            have HNo := Lib.hid (none_any _ _ q3 X1 HQX.out hz3)
            have herb : (er3 == 0) = false := beq_eq_false_iff_ne.2 her
            clear hz3 her ht3
            go_wp2_with fail
            refine HNo.out.mono ?_
            clear HNo
            rintro e x2 ⟨rfl, hb12⟩
            have hbY := hbb11.trans (hb12.mono hbb11.size)
            clear b0 b1 b2 hb12
            go_wp2_with fail
            have HDl := Lib.hid (decode_any _ l x2 Hs.out (Hv.out.below hbY))
            refine HDl.out.mono ?_
            clear HDl
            rintro e x3 ⟨fv4, tv4, q4, er4, rfl, hb13, hq4, ht4⟩
            obtain ⟨fa4, fc4, ta4, tc4, rfl, rfl⟩ := isProg_slices hq4
            have hbb14 := hbY.trans (hb13.mono hbY.size)
            have hgaZ := grown_alloc x3 (.cells #[.slice fa4 q4.funs.length fc4, .slice ta4 q4.texts.length tc4, .int .i64 q4.main] 25)
            have gAZ := new_heap x3 (.cells #[.slice fa4 q4.funs.length fc4, .slice ta4 q4.texts.length tc4, .int .i64 q4.main] 25)
            have hgbZ := grown_under hgaZ (Nat.le_refl _) (by nofun)
            have HQZ := Lib.hid (hq4.below hgbZ)
            have hbb15 := hbb14.trans (hgbZ.mono hbb14.size)
            clear hb13 hq4 hgaZ hgbZ
            go_upto_region 20 with fail
            generalize hAZ : x3.heap.size = AZ at *
            generalize x3.alloc (.cells #[.slice fa4 q4.funs.length fc4, .slice ta4 q4.texts.length tc4, .int .i64 q4.main] 25) = X3 at *
            obtain ⟨z0, z1, z2⟩ := ins_cells gAZ
            by_cases her4 : er4 = 0
            · subst her4
              obtain ⟨hv4, hc4⟩ := code_dec Hs.out.1 ht4.symm
              have hval4 : validB q4 = true := by rw [← validS_strip]; exact hv4
              have hE4 : encL q4 = l := by rw [encL_strip]; exact hc4
              have hbl4 : (bodyL q4).length ≤ 1000000 := by
                have h1 := congrArg List.length hE4
                unfold encL at h1; rw [List.length_append] at h1; omega
              have hvp4 := valid_parts q4 hval4
              have HEz := Lib.hid (encode_any (.slice fa4 q4.funs.length fc4) (.slice ta4 q4.texts.length tc4) q4 X3 HQZ.out (by omega) (by omega) (fun s _ => quoted_any s) hbl4)
              clear ht4 hv4 hc4 hvp4 hbl4
              go_wp2_with fail
              refine HEz.out.mono ?_
              clear HEz
              rintro e x4 ⟨vZ, rfl, hrow, hb16⟩
              rw [enc_yes q4 hval4, hE4] at hrow ⊢
              simp only at hrow
              have hbZ := hbb15.trans (hb16.mono hbb15.size)
              have hvZ := Hv.out.below hbZ
              obtain ⟨ea, ec, rfl, hec, hex⟩ := hrow
              obtain ⟨va', vc', hvv, hvc', hvx⟩ := hvZ
              obtain ⟨e1, e2⟩ : va = va' ∧ vc = vc' := ⟨(Value.slice.inj hvv).1, (Value.slice.inj hvv).2.2⟩
              subst e1 e2
              have HBE := Lib.hid (Tryz.bytes_Equal_all ea va l.length ec l.length vc l l x4 rfl rfl (fun h0 => by
                obtain ⟨b, o, hb, _, hc⟩ := hex h0
                exact ⟨b, o, hb, fun i hi => (hc i (by rw [u8s_length]; exact hi)).trans (congrArg some (u8s_at _ i hi))⟩) (fun h0 => by
                obtain ⟨b, o, hb, _, hc⟩ := hvx h0
                exact ⟨b, o, hb, fun i hi => (hc i (by rw [u8s_length]; exact hi)).trans (congrArg some (u8s_at _ i hi))⟩))
              clear hex hvx hb16 z0 z1 z2
              go_wp2_with fail
              refine HBE.out.mono ?_
              clear HBE
              rintro e x5 ⟨rfl, rfl⟩
              simp only [beq_self_eq_true]
              go_wp2_with fail
              go_ret
              exact ⟨rfl, hbZ⟩
            · have hz4 := dec_none ht4.symm her4
              have HNz := Lib.hid (none_any _ _ q4 X3 HQZ.out hz4)
              have herz : (er4 == 0) = false := beq_eq_false_iff_ne.2 her4
              clear hz4 her4 ht4
              go_wp2_with fail
              refine HNz.out.mono ?_
              clear HNz
              rintro e x4 ⟨rfl, hb16⟩
              have hbZ := hbb15.trans (hb16.mono hbb15.size)
              clear z0 z1 z2 hb16
              go_wp2_with fail
              go_ret
              exact ⟨rfl, hbZ⟩
        · have hval' : validB p = false := by simpa using hval
          have HT := Lib.hid (text_no (.slice fa p.funs.length fc) (.slice ta p.texts.length tc) p w2 (Hp.out.below hbb2) (by omega) (by omega) hval')
          clear hval hval'
          go_wp2_with fail
          refine HT.out.mono ?_
          clear HT
          rintro e w3 ⟨rfl, hb3⟩
          have hb := hbb2.trans (hb3.mono hbb2.size)
          go_wp2_with fail
          have hEV := hE.below hb
          have HPs := Lib.hid (parse_any s w3 hEV.env (by omega))
          refine HPs.out.mono ?_
          clear HPs
          rintro e x1 ⟨fv3, tv3, q3, er3, rfl, hb10, hq3, ht3⟩
          obtain ⟨fa3, fc3, ta3, tc3, rfl, rfl⟩ := isProg_slices hq3
          have hbb10 := (hb).trans (hb10.mono (hb).size)
          have hgaX := grown_alloc x1 (.cells #[.slice fa3 q3.funs.length fc3, .slice ta3 q3.texts.length tc3, .int .i64 q3.main] 25)
          have gAX := new_heap x1 (.cells #[.slice fa3 q3.funs.length fc3, .slice ta3 q3.texts.length tc3, .int .i64 q3.main] 25)
          have hgbX := grown_under hgaX (Nat.le_refl _) (by nofun)
          have HQX := Lib.hid (hq3.below hgbX)
          have hbb11 := hbb10.trans (hgbX.mono hbb10.size)
          clear hb10 hq3 hgaX hgbX
          go_upto_region 13 with fail
          generalize hAX : x1.heap.size = AX at *
          generalize x1.alloc (.cells #[.slice fa3 q3.funs.length fc3, .slice ta3 q3.texts.length tc3, .int .i64 q3.main] 25) = X1 at *
          obtain ⟨b0, b1, b2⟩ := ins_cells gAX
          by_cases her : er3 = 0
          · subst her
            obtain ⟨hvs, hts⟩ := text_par ht3.symm
            have hval3 : validB q3 = true := by rw [← validS_strip]; exact hvs
            have htA : textA q3 = s.data.toList := by rw [textA_strip]; exact hts
            have hvp := valid_parts q3 hval3
            have hsd := data_len s
            have HT3 := Lib.hid (textA_any Num52 (.slice fa3 q3.funs.length fc3) (.slice ta3 q3.texts.length tc3) q3 X1 HQX.out (by omega) hval3 (nums52 q3 hval3) (itoa52 X1 (hE.below hbb11).tab) (by rw [htA]; omega))
            unfold TextAOk at HT3
            rw [htA, show (⟨s.data.toList.toArray⟩ : ByteArray) = s from rfl] at HT3
            have hss : (s.toList == s.toList) = true := beq_self_eq_true _
            clear hvp hts htA ht3 hvs
            go_wp2_with fail
            refine HT3.out.mono ?_
            clear HT3
            rintro e x2 ⟨rfl, hb12⟩
            have hbY := hbb11.trans (hb12.mono hbb11.size)
            clear b0 b1 b2 hb12
            go_wp2_with fail
            have HDl := Lib.hid (decode_any _ l x2 Hs.out (Hv.out.below hbY))
            refine HDl.out.mono ?_
            clear HDl
            rintro e x3 ⟨fv4, tv4, q4, er4, rfl, hb13, hq4, ht4⟩
            obtain ⟨fa4, fc4, ta4, tc4, rfl, rfl⟩ := isProg_slices hq4
            have hbb14 := hbY.trans (hb13.mono hbY.size)
            have hgaZ := grown_alloc x3 (.cells #[.slice fa4 q4.funs.length fc4, .slice ta4 q4.texts.length tc4, .int .i64 q4.main] 25)
            have gAZ := new_heap x3 (.cells #[.slice fa4 q4.funs.length fc4, .slice ta4 q4.texts.length tc4, .int .i64 q4.main] 25)
            have hgbZ := grown_under hgaZ (Nat.le_refl _) (by nofun)
            have HQZ := Lib.hid (hq4.below hgbZ)
            have hbb15 := hbb14.trans (hgbZ.mono hbb14.size)
            clear hb13 hq4 hgaZ hgbZ
            go_upto_region 20 with fail
            generalize hAZ : x3.heap.size = AZ at *
            generalize x3.alloc (.cells #[.slice fa4 q4.funs.length fc4, .slice ta4 q4.texts.length tc4, .int .i64 q4.main] 25) = X3 at *
            obtain ⟨z0, z1, z2⟩ := ins_cells gAZ
            by_cases her4 : er4 = 0
            · subst her4
              obtain ⟨hv4, hc4⟩ := code_dec Hs.out.1 ht4.symm
              have hval4 : validB q4 = true := by rw [← validS_strip]; exact hv4
              have hE4 : encL q4 = l := by rw [encL_strip]; exact hc4
              have hbl4 : (bodyL q4).length ≤ 1000000 := by
                have h1 := congrArg List.length hE4
                unfold encL at h1; rw [List.length_append] at h1; omega
              have hvp4 := valid_parts q4 hval4
              have HEz := Lib.hid (encode_any (.slice fa4 q4.funs.length fc4) (.slice ta4 q4.texts.length tc4) q4 X3 HQZ.out (by omega) (by omega) (fun s _ => quoted_any s) hbl4)
              clear ht4 hv4 hc4 hvp4 hbl4
              go_wp2_with fail
              refine HEz.out.mono ?_
              clear HEz
              rintro e x4 ⟨vZ, rfl, hrow, hb16⟩
              rw [enc_yes q4 hval4, hE4] at hrow ⊢
              simp only at hrow
              have hbZ := hbb15.trans (hb16.mono hbb15.size)
              have hvZ := Hv.out.below hbZ
              obtain ⟨ea, ec, rfl, hec, hex⟩ := hrow
              obtain ⟨va', vc', hvv, hvc', hvx⟩ := hvZ
              obtain ⟨e1, e2⟩ : va = va' ∧ vc = vc' := ⟨(Value.slice.inj hvv).1, (Value.slice.inj hvv).2.2⟩
              subst e1 e2
              have HBE := Lib.hid (Tryz.bytes_Equal_all ea va l.length ec l.length vc l l x4 rfl rfl (fun h0 => by
                obtain ⟨b, o, hb, _, hc⟩ := hex h0
                exact ⟨b, o, hb, fun i hi => (hc i (by rw [u8s_length]; exact hi)).trans (congrArg some (u8s_at _ i hi))⟩) (fun h0 => by
                obtain ⟨b, o, hb, _, hc⟩ := hvx h0
                exact ⟨b, o, hb, fun i hi => (hc i (by rw [u8s_length]; exact hi)).trans (congrArg some (u8s_at _ i hi))⟩))
              clear hex hvx hb16 z0 z1 z2
              go_wp2_with fail
              refine HBE.out.mono ?_
              clear HBE
              rintro e x5 ⟨rfl, rfl⟩
              simp only [beq_self_eq_true]
              go_wp2_with fail
              go_ret
              exact ⟨rfl, hbZ⟩
            · have hz4 := dec_none ht4.symm her4
              have HNz := Lib.hid (none_any _ _ q4 X3 HQZ.out hz4)
              have herz : (er4 == 0) = false := beq_eq_false_iff_ne.2 her4
              clear hz4 her4 ht4
              go_wp2_with fail
              refine HNz.out.mono ?_
              clear HNz
              rintro e x4 ⟨rfl, hb16⟩
              have hbZ := hbb15.trans (hb16.mono hbb15.size)
              clear z0 z1 z2 hb16
              go_wp2_with fail
              go_ret
              exact ⟨rfl, hbZ⟩
          · have hz3 := par_none ht3.symm her
            have HNo := Lib.hid (none_any _ _ q3 X1 HQX.out hz3)
            have herb : (er3 == 0) = false := beq_eq_false_iff_ne.2 her
            clear hz3 her ht3
            go_wp2_with fail
            refine HNo.out.mono ?_
            clear HNo
            rintro e x2 ⟨rfl, hb12⟩
            have hbY := hbb11.trans (hb12.mono hbb11.size)
            clear b0 b1 b2 hb12
            go_wp2_with fail
            have HDl := Lib.hid (decode_any _ l x2 Hs.out (Hv.out.below hbY))
            refine HDl.out.mono ?_
            clear HDl
            rintro e x3 ⟨fv4, tv4, q4, er4, rfl, hb13, hq4, ht4⟩
            obtain ⟨fa4, fc4, ta4, tc4, rfl, rfl⟩ := isProg_slices hq4
            have hbb14 := hbY.trans (hb13.mono hbY.size)
            have hgaZ := grown_alloc x3 (.cells #[.slice fa4 q4.funs.length fc4, .slice ta4 q4.texts.length tc4, .int .i64 q4.main] 25)
            have gAZ := new_heap x3 (.cells #[.slice fa4 q4.funs.length fc4, .slice ta4 q4.texts.length tc4, .int .i64 q4.main] 25)
            have hgbZ := grown_under hgaZ (Nat.le_refl _) (by nofun)
            have HQZ := Lib.hid (hq4.below hgbZ)
            have hbb15 := hbb14.trans (hgbZ.mono hbb14.size)
            clear hb13 hq4 hgaZ hgbZ
            go_upto_region 20 with fail
            generalize hAZ : x3.heap.size = AZ at *
            generalize x3.alloc (.cells #[.slice fa4 q4.funs.length fc4, .slice ta4 q4.texts.length tc4, .int .i64 q4.main] 25) = X3 at *
            obtain ⟨z0, z1, z2⟩ := ins_cells gAZ
            by_cases her4 : er4 = 0
            · subst her4
              obtain ⟨hv4, hc4⟩ := code_dec Hs.out.1 ht4.symm
              have hval4 : validB q4 = true := by rw [← validS_strip]; exact hv4
              have hE4 : encL q4 = l := by rw [encL_strip]; exact hc4
              have hbl4 : (bodyL q4).length ≤ 1000000 := by
                have h1 := congrArg List.length hE4
                unfold encL at h1; rw [List.length_append] at h1; omega
              have hvp4 := valid_parts q4 hval4
              have HEz := Lib.hid (encode_any (.slice fa4 q4.funs.length fc4) (.slice ta4 q4.texts.length tc4) q4 X3 HQZ.out (by omega) (by omega) (fun s _ => quoted_any s) hbl4)
              clear ht4 hv4 hc4 hvp4 hbl4
              go_wp2_with fail
              refine HEz.out.mono ?_
              clear HEz
              rintro e x4 ⟨vZ, rfl, hrow, hb16⟩
              rw [enc_yes q4 hval4, hE4] at hrow ⊢
              simp only at hrow
              have hbZ := hbb15.trans (hb16.mono hbb15.size)
              have hvZ := Hv.out.below hbZ
              obtain ⟨ea, ec, rfl, hec, hex⟩ := hrow
              obtain ⟨va', vc', hvv, hvc', hvx⟩ := hvZ
              obtain ⟨e1, e2⟩ : va = va' ∧ vc = vc' := ⟨(Value.slice.inj hvv).1, (Value.slice.inj hvv).2.2⟩
              subst e1 e2
              have HBE := Lib.hid (Tryz.bytes_Equal_all ea va l.length ec l.length vc l l x4 rfl rfl (fun h0 => by
                obtain ⟨b, o, hb, _, hc⟩ := hex h0
                exact ⟨b, o, hb, fun i hi => (hc i (by rw [u8s_length]; exact hi)).trans (congrArg some (u8s_at _ i hi))⟩) (fun h0 => by
                obtain ⟨b, o, hb, _, hc⟩ := hvx h0
                exact ⟨b, o, hb, fun i hi => (hc i (by rw [u8s_length]; exact hi)).trans (congrArg some (u8s_at _ i hi))⟩))
              clear hex hvx hb16 z0 z1 z2
              go_wp2_with fail
              refine HBE.out.mono ?_
              clear HBE
              rintro e x5 ⟨rfl, rfl⟩
              simp only [beq_self_eq_true]
              go_wp2_with fail
              go_ret
              exact ⟨rfl, hbZ⟩
            · have hz4 := dec_none ht4.symm her4
              have HNz := Lib.hid (none_any _ _ q4 X3 HQZ.out hz4)
              have herz : (er4 == 0) = false := beq_eq_false_iff_ne.2 her4
              clear hz4 her4 ht4
              go_wp2_with fail
              refine HNz.out.mono ?_
              clear HNz
              rintro e x4 ⟨rfl, hb16⟩
              have hbZ := hbb15.trans (hb16.mono hbb15.size)
              clear z0 z1 z2 hb16
              go_wp2_with fail
              go_ret
              exact ⟨rfl, hbZ⟩
end Go.Proofs.YtidffjlpldalpaaGreatDoor
