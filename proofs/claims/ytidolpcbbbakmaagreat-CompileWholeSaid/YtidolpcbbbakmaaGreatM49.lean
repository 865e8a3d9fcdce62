/- call of the reference of layer 47: operations 4, 13, 14, 16. -/
import Derived.Test.YtidolpcbbbakmaaGreatM46
namespace Go.Proofs.YtidolpcbbbakmaaGreat
open Go Go.RowKit
set_option maxRecDepth 100000 in
set_option maxHeartbeats 16000000 in
theorem arm_4 : ArmOk 4 := by
  intro p hp fuel hfu G HIH M w0 sb tv st ov V hw0 hM fop fs fl aop an asx al k fb foff fc HB hsb fdc fdd fdcode cc fla flc h7 HFO ala alc HP R L1 HOV hkp mu hmu0 rel nn wr hmu J K K1 hJ hK stk lo s o2 m he hsf t at1 ib ioff hlenF HFN hfk hrel0 hw2 ia ib2 q hat w3 hz3 hq1000 hlen a c HL hc HASH fr hfq hfr hfrom hsl2 hdl hltm v4 w4 HB4 HK4 HROW HS2 HVS hz4 hbx4 hfi HRI hq act hsz hdf hpre h15 h16
  have at0 : (0 : Int) ≤ (t : Int) := by omega
  have htop := HL.out.top
  have hpos := HL.out.pos
  have hgas := HL.out.gas
  have hsmall := HL.out.small
  obtain ⟨iV, iVhii, iVz0, iVz1, iVz2⟩ := parts_info info_valK
  have j0 : w4.cell? ⟨wr.heap.size, 0, none⟩ = some (.int .i64 4) := by simp [World.cell?, hbx4]
  have j1 : w4.cell? ⟨wr.heap.size, 1, none⟩ = some (.int .i64 ia) := by simp [World.cell?, hbx4]
  have j2 : w4.cell? ⟨wr.heap.size, 2, none⟩ = some (.int .i64 ib2) := by simp [World.cell?, hbx4]
  have HRR := Lib.hid (right_rest HRI.out)
  have heq := HL.out.eq
  rw [runP, HFN.out] at heq
  simp only at heq
  rw [if_neg (by simpa using he), if_neg (by omega), if_neg hsf, Int.toNat_natCast, hfi, hq, List.length_map, if_neg hlen, hfrom, ← List.map_drop, ← List.map_take] at heq
  have HEQ := Lib.hid heq
  clear heq hbx4
  have hsfb : (s.steps == fuel) = false := beq_eq_false_iff_ne.2 hsf
  revert hpre h15 h16
  refine act_lit act hsz hdf ?_
  clear hsz hdf act
  intro u0 u1 u2 u3 u4 u5 u6 u7 u8 u9 u10 u11 u12 u13 u14 u15 u16
  intros
  rename_i hpre h15 h16
  change [u0, u1, u2, u3, u4, u5, u6, u7, u8, u9, u10, u11] = _ at hpre
  cases hpre
  change u15 = _ at h15
  change u16 = _ at h16
  subst h15 h16
  simp only [callRest, seqR, seqL, insideC, Tryz.f29, Option.getD_some]
  have hE := HEQ.out
  simp only [show ¬ (4 : Int) = 9 by decide, show ¬ (4 : Int) = 14 by decide, show ¬ (4 : Int) = 16 by decide, show ¬ (4 : Int) = 13 by decide, show ¬ (4 : Int) = 8 by decide, show ¬ (4 : Int) = 1 by decide, show ¬ (4 : Int) = 2 by decide, show ¬ (4 : Int) = 3 by decide, show ¬ (4 : Int) = 5 by decide, show ¬ (4 : Int) = 6 by decide, show ¬ (4 : Int) = 7 by decide, show ¬ (4 : Int) = 10 by decide, show ¬ (4 : Int) = 12 by decide, show ¬ (4 : Int) = 11 by decide, if_false, if_true] at hE
  have HE := Lib.hid hE
  clear hE HEQ
  obtain rfl : q = 1 := hq.symm.trans rfl
  obtain ⟨x, hx⟩ : ∃ x, stk.drop fr = [x] := List.length_eq_one_iff.1 hdl
  rw [hx] at HROW HE
  have hxm : x ∈ stk := List.mem_of_mem_drop (by rw [hx]; exact List.mem_singleton_self x)
  have HX := Lib.hid (HVS.out x hxm)
  have HXO := Lib.hid (HL.out.stkok x hxm)
  obtain ⟨g4, off4, c4, rfl, hc4, hm4, hg4, x0, x1, x2, x3⟩ := rowV_at (l := [x]) HROW.out 0 (by simp)
  obtain ⟨xo, xn, xs, xv, xl⟩ := x
  obtain ⟨xa, xc, rfl, _⟩ := HX.out.parts.1
  simp only [Nat.zero_mul, Nat.add_zero, List.getD, List.getElem?_cons_zero, Option.getD_some, ExpD.op, ExpD.n, ExpD.s, ExpD.lv, List.length_singleton] at x0 x1 x2 x3 hc4
  simp only [List.map_cons, List.map_nil, List.headD_cons] at HE
  have hR := HRR.out.2.1 (.inr rfl)
  simp only at hR
  obtain ⟨j, rfl⟩ : ∃ j : Nat, ia = (j : Int) := ⟨ia.toNat, by omega⟩
  have hjl : j < lo.length := by have := HL.out.lolen; rw [HFN.out] at this; simp only at this; omega
  rw [Int.toNat_natCast] at HE
  obtain ⟨l0, l1, l2, l3⟩ := rowA_at HB4.out.lob j hjl
  generalize (lo.getD j default).op = y0 at l0
  generalize (lo.getD j default).n = y1 at l1
  generalize (lo.getD j default).s = y2 at l2
  generalize (lo.getD j default).lv = y3 at l3
  have z0 := Lib.frozen_of_heap HB4.out.lob (j * 4)
  have z1 := Lib.frozen_of_heap HB4.out.lob (j * 4 + 1)
  have z2 := Lib.frozen_of_heap HB4.out.lob (j * 4 + 2)
  have z3 := Lib.frozen_of_heap HB4.out.lob (j * 4 + 3)
  have hll : lo.length = L1 + 1 := by have := HL.out.lolen; rw [HFN.out] at this; simp only at this; omega
  have hj1 : (j : Int) < ((L1 + 1 : Nat) : Int) := by omega
  have hpa := HB4.out.put hsb j hjl xo xn xs (.slice xa xl.length xc) xl HX.out
  have HP := Lib.hid (And.intro (hpa.1.free (grown_drew _)) (hpa.2.trans (keepV_grown (grown_drew _))))
  clear hpa
  have hmap : (lo.map stripX).set j (stripX (.mk xo xn xs (.slice xa xl.length xc) xl)) = (lo.set j (.mk xo xn xs (.slice xa xl.length xc) xl)).map stripX := by rw [List.map_set]
  rw [hmap] at HE
  have hk9 := Lib.hid HP.out.2
  have hj := Lib.hid (lr_jump HL.out HP.out.1 hfr HASH.out (HS2.out.kept hk9.out) (fun y hy => (HVS.out y hy).kept hk9.out) (List.length_set ..) (fun y hy => by rcases List.mem_or_eq_of_mem_set hy with h | rfl; exact HL.out.look y h; exact HXO.out) HE.out hsf (by omega) (by omega))
  have hst4 := (eight_cells HP.out.1.sst.blk).2.2.2.2.1
  have hst := (eight_cells HL.out.base.sst.blk).2.2.2.2.1
  go_wp2_with (refine wpList_slice_of rfl _ _ _ _ _ rfl _ (hsl2 _) ?_)
  go_region
  go_wp2_with fail
  refine Handed.intro (mu _) ?_ (hJ _ _ _ ⟨rfl, rfl, rfl, (by rw [hrel0]; exact ⟨_, _, _, _, _, _, rfl, hj⟩), rfl⟩)
  rw [← hmu, hmu0]
  simp only [hst4, hst, Option.getD_some, intOf]
  exact mu_less htop hsf (Int.le_refl _)
set_option maxRecDepth 100000 in
set_option maxHeartbeats 16000000 in
theorem arm_13 : ArmOk 13 := by
  intro p hp fuel hfu G HIH M w0 sb tv st ov V hw0 hM fop fs fl aop an asx al k fb foff fc HB hsb fdc fdd fdcode cc fla flc h7 HFO ala alc HP R L1 HOV hkp mu hmu0 rel nn wr hmu J K K1 hJ hK stk lo s o2 m he hsf t at1 ib ioff hlenF HFN hfk hrel0 hw2 ia ib2 q hat w3 hz3 hq1000 hlen a c HL hc HASH fr hfq hfr hfrom hsl2 hdl hltm v4 w4 HB4 HK4 HROW HS2 HVS hz4 hbx4 hfi HRI hq act hsz hdf hpre h15 h16
  have at0 : (0 : Int) ≤ (t : Int) := by omega
  have htop := HL.out.top
  have hpos := HL.out.pos
  have hgas := HL.out.gas
  have hsmall := HL.out.small
  obtain ⟨iV, iVhii, iVz0, iVz1, iVz2⟩ := parts_info info_valK
  have j0 : w4.cell? ⟨wr.heap.size, 0, none⟩ = some (.int .i64 13) := by simp [World.cell?, hbx4]
  have j1 : w4.cell? ⟨wr.heap.size, 1, none⟩ = some (.int .i64 ia) := by simp [World.cell?, hbx4]
  have j2 : w4.cell? ⟨wr.heap.size, 2, none⟩ = some (.int .i64 ib2) := by simp [World.cell?, hbx4]
  have HRR := Lib.hid (right_rest HRI.out)
  have heq := HL.out.eq
  rw [runP, HFN.out] at heq
  simp only at heq
  rw [if_neg (by simpa using he), if_neg (by omega), if_neg hsf, Int.toNat_natCast, hfi, hq, List.length_map, if_neg hlen, hfrom, ← List.map_drop, ← List.map_take] at heq
  have HEQ := Lib.hid heq
  clear heq hbx4
  have hsfb : (s.steps == fuel) = false := beq_eq_false_iff_ne.2 hsf
  revert hpre h15 h16
  refine act_lit act hsz hdf ?_
  clear hsz hdf act
  intro u0 u1 u2 u3 u4 u5 u6 u7 u8 u9 u10 u11 u12 u13 u14 u15 u16
  intros
  rename_i hpre h15 h16
  change [u0, u1, u2, u3, u4, u5, u6, u7, u8, u9, u10, u11] = _ at hpre
  cases hpre
  change u15 = _ at h15
  change u16 = _ at h16
  subst h15 h16
  simp only [callRest, seqR, seqL, insideC, Tryz.f29, Option.getD_some]
  have hE := HEQ.out
  simp only [show ¬ (13 : Int) = 9 by decide, show ¬ (13 : Int) = 14 by decide, show ¬ (13 : Int) = 16 by decide, show ¬ (13 : Int) = 4 by decide, show ¬ (13 : Int) = 8 by decide, show ¬ (13 : Int) = 1 by decide, show ¬ (13 : Int) = 2 by decide, show ¬ (13 : Int) = 3 by decide, show ¬ (13 : Int) = 5 by decide, show ¬ (13 : Int) = 6 by decide, show ¬ (13 : Int) = 7 by decide, show ¬ (13 : Int) = 10 by decide, show ¬ (13 : Int) = 12 by decide, show ¬ (13 : Int) = 11 by decide, if_false, if_true] at hE
  have HE := Lib.hid hE
  clear hE HEQ
  obtain rfl : q = 1 := hq.symm.trans rfl
  obtain ⟨x, hx⟩ : ∃ x, stk.drop fr = [x] := List.length_eq_one_iff.1 hdl
  rw [hx] at HROW HE
  have hxm : x ∈ stk := List.mem_of_mem_drop (by rw [hx]; exact List.mem_singleton_self x)
  have HX := Lib.hid (HVS.out x hxm)
  have HXO := Lib.hid (HL.out.stkok x hxm)
  obtain ⟨g4, off4, c4, rfl, hc4, hm4, hg4, x0, x1, x2, x3⟩ := rowV_at (l := [x]) HROW.out 0 (by simp)
  obtain ⟨xo, xn, xs, xv, xl⟩ := x
  obtain ⟨xa, xc, rfl, _⟩ := HX.out.parts.1
  simp only [Nat.zero_mul, Nat.add_zero, List.getD, List.getElem?_cons_zero, Option.getD_some, ExpD.op, ExpD.n, ExpD.s, ExpD.lv, List.length_singleton] at x0 x1 x2 x3 hc4
  simp only [List.map_cons, List.map_nil, List.headD_cons] at HE
  have hR := HRR.out.2.2.2.2.2.2.1 rfl
  simp only at hR
  have hxe : (stripX (.mk xo xn xs (.slice xa xl.length xc) xl)).op = xo := strip_op _
  have hxn : (stripX (.mk xo xn xs (.slice xa xl.length xc) xl)).n = xn := strip_n _
  rw [hxe, hxn] at HE
  by_cases hbad : xo ≠ 4 ∨ ib2 ≤ xn
  · rw [if_pos hbad] at HE
    have HEQ := HE
    clear hxe hxn
    by_cases h4 : xo = 4
    · have h5 : ib2 ≤ xn := by rcases hbad with h | h; exact absurd h4 h; exact h
      subst h4
      go_wp2_with (refine wpList_slice_of rfl _ _ _ _ _ rfl _ (hsl2 _) ?_)
      go_region
      have HSt := Lib.hid (stop47_any sb _ tv p.main fuel (tick s) o2 4 0 w4.drew (HB4.out.free (grown_drew w4)).sst)
      go_wp2_with (first
        | (go_at_call 58; refine HSt.out.mono ?_; rintro e w2 ⟨rfl, hs2, hE2⟩; obtain ⟨n2, hP⟩ := exit_stop (HB4.out.free (grown_drew w4)) hsb hs2 hE2 HEQ.out; have HP := Lib.hid hP; clear hP hs2 hE2)
        | (refine wpList_store_row rfl 77 _ _ rfl (V.heap.size + 2) nil47 rfl rfl 77 nil47 n2 info47 rfl (all_one _ rfl) ?_))
      exact bodyPost_ret (results_cell_row rfl _ _ (V.heap.size + 2) 77 _ (0, 0) _ rfl (setRow_heap _ _ _ _ _ _ n2) Tryz.underlying77 rfl info47) rfl HP.out
    · have h4b : (xo == 4) = false := beq_eq_false_iff_ne.2 h4
      have h4c : (xo != 4) = true := by rw [bne, h4b]; rfl
      go_wp2_with (refine wpList_slice_of rfl _ _ _ _ _ rfl _ (hsl2 _) ?_)
      go_region
      have HSt := Lib.hid (stop47_any sb _ tv p.main fuel (tick s) o2 4 0 w4.drew (HB4.out.free (grown_drew w4)).sst)
      go_wp2_with (first
        | (go_at_call 58; refine HSt.out.mono ?_; rintro e w2 ⟨rfl, hs2, hE2⟩; obtain ⟨n2, hP⟩ := exit_stop (HB4.out.free (grown_drew w4)) hsb hs2 hE2 HEQ.out; have HP := Lib.hid hP; clear hP hs2 hE2)
        | (refine wpList_store_row rfl 77 _ _ rfl (V.heap.size + 2) nil47 rfl rfl 77 nil47 n2 info47 rfl (all_one _ rfl) ?_))
      exact bodyPost_ret (results_cell_row rfl _ _ (V.heap.size + 2) 77 _ (0, 0) _ rfl (setRow_heap _ _ _ _ _ _ n2) Tryz.underlying77 rfl info47) rfl HP.out
  · rw [if_neg hbad] at HE
    obtain ⟨h4, h5⟩ : xo = 4 ∧ xn < ib2 := by omega
    subst h4
    clear hxe hxn hbad
    have hv4 := (HXO.out.all).2.1 (strip_op _)
    rw [strip_l, strip_n, List.length_map] at hv4
    simp only [ExpD.l, ExpD.n] at hv4
    obtain ⟨yb, yoff, yc, hyv, hyc, hym, hyb, l0, l1, l2, l3⟩ := rowV_at HX.out.parts.1 0 (by omega)
    obtain ⟨rfl, _, rfl⟩ := Value.slice.inj hyv
    clear hyv
    simp only [Nat.zero_mul, Nat.add_zero] at l0 l1 l2 l3
    have hyl := getD_mem default xl 0 (by omega)
    have HY := Lib.hid (HX.out.parts.2.2 _ hyl)
    have HYO : Hid (ValOk p (stripX (xl.getD 0 default))) := Lib.hid (HXO.out.all.2.2 _ (by rw [strip_l]; exact List.mem_map_of_mem hyl))
    have hyh : (stripX (.mk 4 xn xs (.slice (some ⟨yb, yoff, none⟩) xl.length xc) xl)).l.headD default = stripX (xl.getD 0 default) := by rw [strip_l]; simp only [ExpD.l]; cases xl with | nil => simp at hv4 | cons z zs => rfl
    rw [hyh] at HE
    clear hyh hyl
    generalize xl.getD 0 default = y at l0 l1 l2 l3 HY HYO HE
    obtain ⟨yo, yn, ys, yv, yl⟩ := y
    obtain ⟨ya, yd, rfl, _⟩ := HY.out.parts.1
    simp only [ExpD.op, ExpD.n, ExpD.s, ExpD.lv] at l0 l1 l2 l3
    obtain ⟨j, rfl⟩ : ∃ j : Nat, ia = (j : Int) := ⟨ia.toNat, by omega⟩
    have hjl : j < lo.length := by have := HL.out.lolen; rw [HFN.out] at this; simp only at this; omega
    rw [Int.toNat_natCast] at HE
    obtain ⟨k0, k1, k2, k3⟩ := rowA_at HB4.out.lob j hjl
    generalize (lo.getD j default).op = z0v at k0
    generalize (lo.getD j default).n = z1v at k1
    generalize (lo.getD j default).s = z2v at k2
    generalize (lo.getD j default).lv = z3v at k3
    have z0 := Lib.frozen_of_heap HB4.out.lob (j * 4)
    have z1 := Lib.frozen_of_heap HB4.out.lob (j * 4 + 1)
    have z2 := Lib.frozen_of_heap HB4.out.lob (j * 4 + 2)
    have z3 := Lib.frozen_of_heap HB4.out.lob (j * 4 + 3)
    have hll : lo.length = L1 + 1 := by have := HL.out.lolen; rw [HFN.out] at this; simp only at this; omega
    have hj1 : (j : Int) < ((L1 + 1 : Nat) : Int) := by omega
    have hx1 : (0 : Int) < ((xl.length : Nat) : Int) := by omega
    have hx1n : 0 < xl.length := by omega
    have hpa := HB4.out.put hsb j hjl yo yn ys (.slice ya yl.length yd) yl HY.out
    have HP := Lib.hid (And.intro (hpa.1.free (both (grown_drew _) (grown_drew _))) (hpa.2.trans (keepV_grown (both (grown_drew _) (grown_drew _)))))
    clear hpa
    have hmap : (lo.map stripX).set j (stripX (.mk yo yn ys (.slice ya yl.length yd) yl)) = (lo.set j (.mk yo yn ys (.slice ya yl.length yd) yl)).map stripX := by rw [List.map_set]
    rw [hmap] at HE
    have hk9 := Lib.hid HP.out.2
    have hj := Lib.hid (lr_jump HL.out HP.out.1 hfr HASH.out (HS2.out.kept hk9.out) (fun y hy => (HVS.out y hy).kept hk9.out) (List.length_set ..) (fun y hy => by rcases List.mem_or_eq_of_mem_set hy with h | rfl; exact HL.out.look y h; exact HYO.out) HE.out hsf (by omega) (by omega))
    have hst4 := (eight_cells HP.out.1.sst.blk).2.2.2.2.1
    have hst := (eight_cells HL.out.base.sst.blk).2.2.2.2.1
    have hg4n : g4 ≠ V.heap.size + 4 := fun e => hm4 (.inr (.inr e))
    have hw5 : IntKind.i64.wrap ((t : Int) + 1 + xn) = (t : Int) + 1 + xn := wrap_ok _ (by omega) (by omega)
    have h4b : ((4 : Int) == 4) = true := rfl
    have h4c : ((4 : Int) != 4) = false := rfl
    have h5b : ¬ ib2 ≤ xn := by omega
    have h5c : (ib2 ≤ xn) = False := eq_false h5b
    go_wp2_with (refine wpList_slice_of rfl _ _ _ _ _ rfl _ (hsl2 _) ?_)
    go_region
    go_wp2_with fail
    go_region
    go_wp2_with fail
    refine Handed.intro (mu _) ?_ (hJ _ _ _ ⟨rfl, rfl, rfl, (by rw [hrel0]; exact ⟨_, _, _, _, _, _, rfl, hj⟩), rfl⟩)
    rw [← hmu, hmu0]
    simp only [hst4, hst, Option.getD_some, intOf]
    exact mu_less htop hsf (Int.le_refl _)
set_option maxRecDepth 100000 in
set_option maxHeartbeats 16000000 in
theorem arm_14 : ArmOk 14 := by
  intro p hp fuel hfu G HIH M w0 sb tv st ov V hw0 hM fop fs fl aop an asx al k fb foff fc HB hsb fdc fdd fdcode cc fla flc h7 HFO ala alc HP R L1 HOV hkp mu hmu0 rel nn wr hmu J K K1 hJ hK stk lo s o2 m he hsf t at1 ib ioff hlenF HFN hfk hrel0 hw2 ia ib2 q hat w3 hz3 hq1000 hlen a c HL hc HASH fr hfq hfr hfrom hsl2 hdl hltm v4 w4 HB4 HK4 HROW HS2 HVS hz4 hbx4 hfi HRI hq act hsz hdf hpre h15 h16
  have at0 : (0 : Int) ≤ (t : Int) := by omega
  have htop := HL.out.top
  have hpos := HL.out.pos
  have hgas := HL.out.gas
  have hsmall := HL.out.small
  obtain ⟨iV, iVhii, iVz0, iVz1, iVz2⟩ := parts_info info_valK
  have j0 : w4.cell? ⟨wr.heap.size, 0, none⟩ = some (.int .i64 14) := by simp [World.cell?, hbx4]
  have j1 : w4.cell? ⟨wr.heap.size, 1, none⟩ = some (.int .i64 ia) := by simp [World.cell?, hbx4]
  have j2 : w4.cell? ⟨wr.heap.size, 2, none⟩ = some (.int .i64 ib2) := by simp [World.cell?, hbx4]
  have HRR := Lib.hid (right_rest HRI.out)
  have heq := HL.out.eq
  rw [runP, HFN.out] at heq
  simp only at heq
  rw [if_neg (by simpa using he), if_neg (by omega), if_neg hsf, Int.toNat_natCast, hfi, hq, List.length_map, if_neg hlen, hfrom, ← List.map_drop, ← List.map_take] at heq
  have HEQ := Lib.hid heq
  clear heq hbx4
  have hsfb : (s.steps == fuel) = false := beq_eq_false_iff_ne.2 hsf
  revert hpre h15 h16
  refine act_lit act hsz hdf ?_
  clear hsz hdf act
  intro u0 u1 u2 u3 u4 u5 u6 u7 u8 u9 u10 u11 u12 u13 u14 u15 u16
  intros
  rename_i hpre h15 h16
  change [u0, u1, u2, u3, u4, u5, u6, u7, u8, u9, u10, u11] = _ at hpre
  cases hpre
  change u15 = _ at h15
  change u16 = _ at h16
  subst h15 h16
  simp only [callRest, seqR, seqL, insideC, Tryz.f29, Option.getD_some]
  have hE := HEQ.out
  simp only [show ¬ (14 : Int) = 9 by decide, show ¬ (14 : Int) = 16 by decide, show ¬ (14 : Int) = 4 by decide, show ¬ (14 : Int) = 13 by decide, show ¬ (14 : Int) = 8 by decide, show ¬ (14 : Int) = 1 by decide, show ¬ (14 : Int) = 2 by decide, show ¬ (14 : Int) = 3 by decide, show ¬ (14 : Int) = 5 by decide, show ¬ (14 : Int) = 6 by decide, show ¬ (14 : Int) = 7 by decide, show ¬ (14 : Int) = 10 by decide, show ¬ (14 : Int) = 12 by decide, show ¬ (14 : Int) = 11 by decide, if_false, if_true] at hE
  have HE := Lib.hid hE
  clear hE HEQ
  have hR := HRR.out.2.2.2.2.2.2.2.1 rfl
  simp only at hR
  have hj := Lib.hid (lr_jump HL.out HB4.out hfr HASH.out HS2.out HVS.out rfl HL.out.look HE.out hsf hR.1 (by omega))
  have hst4 := (eight_cells HB4.out.sst.blk).2.2.2.2.1
  have hst := (eight_cells HL.out.base.sst.blk).2.2.2.2.1
  go_wp2_with (refine wpList_slice_of rfl _ _ _ _ _ rfl _ (hsl2 _) ?_)
  refine Handed.intro (mu _) ?_ (hJ _ _ _ ⟨rfl, rfl, rfl, (by rw [hrel0]; exact ⟨_, _, _, _, _, _, rfl, hj⟩), rfl⟩)
  rw [← hmu, hmu0]
  simp only [hst4, hst, Option.getD_some, intOf]
  exact mu_less htop hsf (Int.le_refl _)
set_option maxRecDepth 100000 in
set_option maxHeartbeats 16000000 in
theorem arm_16 : ArmOk 16 := by
  intro p hp fuel hfu G HIH M w0 sb tv st ov V hw0 hM fop fs fl aop an asx al k fb foff fc HB hsb fdc fdd fdcode cc fla flc h7 HFO ala alc HP R L1 HOV hkp mu hmu0 rel nn wr hmu J K K1 hJ hK stk lo s o2 m he hsf t at1 ib ioff hlenF HFN hfk hrel0 hw2 ia ib2 q hat w3 hz3 hq1000 hlen a c HL hc HASH fr hfq hfr hfrom hsl2 hdl hltm v4 w4 HB4 HK4 HROW HS2 HVS hz4 hbx4 hfi HRI hq act hsz hdf hpre h15 h16
  have at0 : (0 : Int) ≤ (t : Int) := by omega
  have htop := HL.out.top
  have hpos := HL.out.pos
  have hgas := HL.out.gas
  have hsmall := HL.out.small
  obtain ⟨iV, iVhii, iVz0, iVz1, iVz2⟩ := parts_info info_valK
  have j0 : w4.cell? ⟨wr.heap.size, 0, none⟩ = some (.int .i64 16) := by simp [World.cell?, hbx4]
  have j1 : w4.cell? ⟨wr.heap.size, 1, none⟩ = some (.int .i64 ia) := by simp [World.cell?, hbx4]
  have j2 : w4.cell? ⟨wr.heap.size, 2, none⟩ = some (.int .i64 ib2) := by simp [World.cell?, hbx4]
  have HRR := Lib.hid (right_rest HRI.out)
  have heq := HL.out.eq
  rw [runP, HFN.out] at heq
  simp only at heq
  rw [if_neg (by simpa using he), if_neg (by omega), if_neg hsf, Int.toNat_natCast, hfi, hq, List.length_map, if_neg hlen, hfrom, ← List.map_drop, ← List.map_take] at heq
  have HEQ := Lib.hid heq
  clear heq hbx4
  have hsfb : (s.steps == fuel) = false := beq_eq_false_iff_ne.2 hsf
  revert hpre h15 h16
  refine act_lit act hsz hdf ?_
  clear hsz hdf act
  intro u0 u1 u2 u3 u4 u5 u6 u7 u8 u9 u10 u11 u12 u13 u14 u15 u16
  intros
  rename_i hpre h15 h16
  change [u0, u1, u2, u3, u4, u5, u6, u7, u8, u9, u10, u11] = _ at hpre
  cases hpre
  change u15 = _ at h15
  change u16 = _ at h16
  subst h15 h16
  simp only [callRest, seqR, seqL, insideC, Tryz.f29, Option.getD_some]
  have hE := HEQ.out
  simp only [show ¬ (16 : Int) = 9 by decide, show ¬ (16 : Int) = 14 by decide, show ¬ (16 : Int) = 4 by decide, show ¬ (16 : Int) = 13 by decide, show ¬ (16 : Int) = 8 by decide, show ¬ (16 : Int) = 1 by decide, show ¬ (16 : Int) = 2 by decide, show ¬ (16 : Int) = 3 by decide, show ¬ (16 : Int) = 5 by decide, show ¬ (16 : Int) = 6 by decide, show ¬ (16 : Int) = 7 by decide, show ¬ (16 : Int) = 10 by decide, show ¬ (16 : Int) = 12 by decide, show ¬ (16 : Int) = 11 by decide, if_false, if_true] at hE
  have HE := Lib.hid hE
  clear hE HEQ
  have HEQ := HE
  have HSt := Lib.hid (stop47_any sb _ tv p.main fuel (tick s) o2 2 ia w4 HB4.out.sst)
  go_wp2_with (first
    | (refine wpList_slice_of rfl _ _ _ _ _ rfl _ (hsl2 _) ?_)
    | (go_at_call 58; refine HSt.out.mono ?_; rintro e w2 ⟨rfl, hs2, hE2⟩; obtain ⟨n2, hP⟩ := exit_stop HB4.out hsb hs2 hE2 HEQ.out; have HP := Lib.hid hP; clear hP hs2 hE2)
    | (refine wpList_store_row rfl 77 _ _ rfl (V.heap.size + 2) nil47 rfl rfl 77 nil47 n2 info47 rfl (all_one _ rfl) ?_))
  exact bodyPost_ret (results_cell_row rfl _ _ (V.heap.size + 2) 77 _ (0, 0) _ rfl (setRow_heap _ _ _ _ _ _ n2) Tryz.underlying77 rfl info47) rfl HP.out
end Go.Proofs.YtidolpcbbbakmaaGreat
