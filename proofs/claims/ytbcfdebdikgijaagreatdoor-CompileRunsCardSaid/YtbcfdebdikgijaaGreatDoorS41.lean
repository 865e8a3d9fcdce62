/- Part of the proof; its texts: Ey8c. -/
import Derived.Test.YtbcfdebdikgijaaGreatDoorS38
set_option maxRecDepth 100000
set_option linter.unusedVariables false
set_option linter.unusedSimpArgs false
set_option maxHeartbeats 16000000
namespace Go.Proofs.YtbcfdebdikgijaaGreatDoor
open Go Go.RowKit
theorem dK : TQ 4 := by
 intro p hp fuel hfu G SC M w0 sb tv st ov V hw0 hM UF fs fl N7 an NZ al k fb Ue fc HB hsb ML MC Yj cc fla TN h7 P6 NY NW HP R L1 PG hkp mu U7 rel nn wr hmu J K K1 hJ hK stk lo s o2 m he hsf t at1 ib SE TP Sn R4 Xi hw2 ia ib2 q hat w3 hz3 hq1000 hlen a c HL hc HASH fr G7 hfr Xw hsl2 hdl Vn v4 w4 HB4 HK4 Wj HS2 N9 hz4 XA hfi Qy hq act hsz hdf hpre h15 h16
 obtain ⟨at0, htop, hpos, TD, hsmall⟩ := Ww HL.out
 obtain ⟨iV, WE, UE, UD, UC⟩ := YQ XV
 obtain ⟨j0, j1, j2⟩ := XM XA
 have HRR := Z9 (Yt Qy.out)
 have heq := HL.out.eq
 rw [Yl, Sn.out] at heq
 simp only at heq
 rw [Z7 (by simpa using he), Z7 (by omega), Z7 hsf, Int.toNat_natCast, hfi, hq, List.length_map, Z7 hlen, Xw, <- List.map_drop, <- List.map_take] at heq
 have W9 := Z9 heq
 clear heq XA
 have Pn : (s.steps == fuel) = false := Zt hsf
 revert hpre h15 h16
 refine WH act hsz hdf ?_
 clear hsz hdf act
 intro u0 u1 u2 u3 u4 u5 u6 u7 u8 u9 u10 u11 u12 u13 u14 u15 u16
 intros
 rename_i hpre h15 h16
 change [u0, u1, u2, u3, u4, u5, u6, u7, u8, u9, u10, u11] = _ at hpre
 cases hpre
 change u15 = _ at h15
 change u16 = _ at h16
 subst h15 h16
 simp only [XD, Ry, Qz, Xf, Tryz.f33, Option.getD_some]
 have hE := W9.out
 simp only [Int.reduceEq, if_false, if_true] at hE
 have HE := Z9 hE
 clear hE W9
 obtain rfl : q = 1 := hq.symm.trans rfl
 obtain ⟨x, hx⟩ : ∃ x, stk.drop fr = [x] := List.length_eq_one_iff.1 hdl
 rw [hx] at Wj HE
 have hxm : x ∈ stk := List.mem_of_mem_drop (by rw [hx]; exact List.mem_singleton_self x)
 have HX := Z9 (N9.out x hxm)
 have jW := Z9 (HL.out.QH x hxm)
 obtain ⟨g4, UZ, c4, rfl, hc4, hm4, hg4, x0, x1, x2, x3⟩ := Vp (l := [x]) Wj.out 0 (by simp)
 obtain ⟨xo, xn, xs, xv, xl⟩ := x
 obtain ⟨xa, xc, rfl, _⟩ := HX.out.parts.1
 simp only [Nat.zero_mul, Nat.add_zero, List.getD, List.getElem?_cons_zero, Option.getD_some, Z0.op, Z0.n, Z0.s, Z0.lv, List.length_singleton] at x0 x1 x2 x3 hc4
 simp only [List.map_cons, List.map_nil, List.headD_cons] at HE
 have hR := HRR.out.2.1 (.inr rfl)
 simp only at hR
 obtain ⟨j, rfl⟩ : ∃ j : Nat, ia = (j : Int) := ⟨ia.toNat, by omega⟩
 have hjl : j < lo.length := by have := HL.out.KZ; rw [Sn.out] at this; simp only at this; omega
 rw [Int.toNat_natCast] at HE
 obtain ⟨l0, l1, l2, l3⟩ := Mh HB4.out.Eb j hjl
 generalize (lo.getD j default).op = y0 at l0
 generalize (lo.getD j default).n = y1 at l1
 generalize (lo.getD j default).s = y2 at l2
 generalize (lo.getD j default).lv = y3 at l3
 have z0 := Lib.frozen_of_heap HB4.out.Eb (j * 4)
 have z1 := Lib.frozen_of_heap HB4.out.Eb (j * 4 + 1)
 have z2 := Lib.frozen_of_heap HB4.out.Eb (j * 4 + 2)
 have z3 := Lib.frozen_of_heap HB4.out.Eb (j * 4 + 3)
 have hll : lo.length = L1 + 1 := by have := HL.out.KZ; rw [Sn.out] at this; simp only at this; omega
 have hj1 : (j : Int) < ((L1 + 1 : Nat) : Int) := by omega
 have hpa := HB4.out.put hsb j hjl xo xn xs (.slice xa xl.length xc) xl HX.out
 have HP := Z9 (And.intro (hpa.1.free (Z4 _)) (hpa.2.trans (ZG (Z4 _))))
 clear hpa
 have hmap : (lo.map ZW).set j (ZW (.mk xo xn xs (.slice xa xl.length xc) xl)) = (lo.set j (.mk xo xn xs (.slice xa xl.length xc) xl)).map ZW := by rw [List.map_set]
 rw [hmap] at HE
 have hk9 := Z9 HP.out.2
 have hj := Z9 (Ij HL.out HP.out.1 hfr HASH.out (HS2.out.kept hk9.out) (fun y hy => (N9.out y hy).kept hk9.out) (List.length_set ..) (fun y hy => by rcases List.mem_or_eq_of_mem_set hy with h | rfl; exact HL.out.look y h; exact jW.out) HE.out hsf (by omega) (by omega))
 have N8 := (ZK HP.out.1.VL.blk).2.2.2.2.1
 have hst := (ZK HL.out.base.VL.blk).2.2.2.2.1
 go_wp2_with (refine ZH rfl _ _ _ _ _ rfl _ (hsl2 _) ?_)
 go_region
 go_wp2_with fail
 refine Handed.intro (mu _) ?_ (hJ _ _ _ ⟨rfl, rfl, rfl, (by rw [Xi]; exact ⟨_, _, _, _, _, _, rfl, hj⟩), rfl⟩)
 rw [<- hmu, U7]
 simp only [N8, hst, Option.getD_some, intOf]
 exact VI htop hsf (Int.le_refl _)
theorem jT : TQ 13 := by
 intro p hp fuel hfu G SC M w0 sb tv st ov V hw0 hM UF fs fl N7 an NZ al k fb Ue fc HB hsb ML MC Yj cc fla TN h7 P6 NY NW HP R L1 PG hkp mu U7 rel nn wr hmu J K K1 hJ hK stk lo s o2 m he hsf t at1 ib SE TP Sn R4 Xi hw2 ia ib2 q hat w3 hz3 hq1000 hlen a c HL hc HASH fr G7 hfr Xw hsl2 hdl Vn v4 w4 HB4 HK4 Wj HS2 N9 hz4 XA hfi Qy hq act hsz hdf hpre h15 h16
 obtain ⟨at0, htop, hpos, TD, hsmall⟩ := Ww HL.out
 obtain ⟨iV, WE, UE, UD, UC⟩ := YQ XV
 obtain ⟨j0, j1, j2⟩ := XM XA
 have HRR := Z9 (Yt Qy.out)
 have heq := HL.out.eq
 rw [Yl, Sn.out] at heq
 simp only at heq
 rw [Z7 (by simpa using he), Z7 (by omega), Z7 hsf, Int.toNat_natCast, hfi, hq, List.length_map, Z7 hlen, Xw, <- List.map_drop, <- List.map_take] at heq
 have W9 := Z9 heq
 clear heq XA
 have Pn : (s.steps == fuel) = false := Zt hsf
 revert hpre h15 h16
 refine WH act hsz hdf ?_
 clear hsz hdf act
 intro u0 u1 u2 u3 u4 u5 u6 u7 u8 u9 u10 u11 u12 u13 u14 u15 u16
 intros
 rename_i hpre h15 h16
 change [u0, u1, u2, u3, u4, u5, u6, u7, u8, u9, u10, u11] = _ at hpre
 cases hpre
 change u15 = _ at h15
 change u16 = _ at h16
 subst h15 h16
 simp only [XD, Ry, Qz, Xf, Tryz.f33, Option.getD_some]
 have hE := W9.out
 simp only [Int.reduceEq, if_false, if_true] at hE
 have HE := Z9 hE
 clear hE W9
 obtain rfl : q = 1 := hq.symm.trans rfl
 obtain ⟨x, hx⟩ : ∃ x, stk.drop fr = [x] := List.length_eq_one_iff.1 hdl
 rw [hx] at Wj HE
 have hxm : x ∈ stk := List.mem_of_mem_drop (by rw [hx]; exact List.mem_singleton_self x)
 have HX := Z9 (N9.out x hxm)
 have jW := Z9 (HL.out.QH x hxm)
 obtain ⟨g4, UZ, c4, rfl, hc4, hm4, hg4, x0, x1, x2, x3⟩ := Vp (l := [x]) Wj.out 0 (by simp)
 obtain ⟨xo, xn, xs, xv, xl⟩ := x
 obtain ⟨xa, xc, rfl, _⟩ := HX.out.parts.1
 simp only [Nat.zero_mul, Nat.add_zero, List.getD, List.getElem?_cons_zero, Option.getD_some, Z0.op, Z0.n, Z0.s, Z0.lv, List.length_singleton] at x0 x1 x2 x3 hc4
 simp only [List.map_cons, List.map_nil, List.headD_cons] at HE
 have hR := HRR.out.2.2.2.2.2.2.1 rfl
 simp only at hR
 have hxe : (ZW (.mk xo xn xs (.slice xa xl.length xc) xl)).op = xo := YF _
 have hxn : (ZW (.mk xo xn xs (.slice xa xl.length xc) xl)).n = xn := Uc _
 rw [hxe, hxn] at HE
 by_cases hbad : xo ≠ 4 \/ ib2 <= xn
 ·rw [ZY hbad] at HE
  have W9 := HE; clear hxe hxn; by_cases h4 : xo = 4
  ·have h5 : ib2 <= xn := by rcases hbad with h | h; exact absurd h4 h; exact h
   subst h4; go_wp2_with (refine ZH rfl _ _ _ _ _ rfl _ (hsl2 _) ?_); go_region; have Py := Z9 (Ym sb _ tv p.main fuel (tick s) o2 4 0 w4.drew (HB4.out.free (Z4 w4)).VL); go_wp2_with (first
    | (go_at_call 63; refine Py.out.mono ?_; rintro e w2 ⟨rfl, hs2, hE2⟩; obtain ⟨n2, hP⟩ := Xq (HB4.out.free (Z4 w4)) hsb hs2 hE2 W9.out; have HP := Z9 hP; clear hP hs2 hE2)
    | (refine Zc rfl 94 _ _ rfl (V.heap.size + 2) Zf rfl rfl 94 Zf n2 YX rfl (ZO _ rfl) ?_))
   exact Y4 (YC rfl _ _ (V.heap.size + 2) 94 _ (0, 0) _ rfl (Zd _ _ _ _ _ _ n2) Tryz.underlying94 rfl YX) rfl HP.out
  ·have h4b : (xo == 4) = false := Zt h4
   have h4c : (xo != 4) = true := by rw [bne, h4b]; rfl
   go_wp2_with (refine ZH rfl _ _ _ _ _ rfl _ (hsl2 _) ?_); go_region; have Py := Z9 (Ym sb _ tv p.main fuel (tick s) o2 4 0 w4.drew (HB4.out.free (Z4 w4)).VL); go_wp2_with (first
    | (go_at_call 63; refine Py.out.mono ?_; rintro e w2 ⟨rfl, hs2, hE2⟩; obtain ⟨n2, hP⟩ := Xq (HB4.out.free (Z4 w4)) hsb hs2 hE2 W9.out; have HP := Z9 hP; clear hP hs2 hE2)
    | (refine Zc rfl 94 _ _ rfl (V.heap.size + 2) Zf rfl rfl 94 Zf n2 YX rfl (ZO _ rfl) ?_))
   exact Y4 (YC rfl _ _ (V.heap.size + 2) 94 _ (0, 0) _ rfl (Zd _ _ _ _ _ _ n2) Tryz.underlying94 rfl YX) rfl HP.out
 ·rw [Z7 hbad] at HE
  obtain ⟨h4, h5⟩ : xo = 4 /\ xn < ib2 := by omega
  subst h4; clear hxe hxn hbad; have hv4 := (jW.out.all).2.1 (YF _); rw [Ub, Uc, List.length_map] at hv4; simp only [Z0.l, Z0.n] at hv4; obtain ⟨yb, dJ, yq, hyv, dZ, hym, hyb, l0, l1, l2, l3⟩ := Vp HX.out.parts.1 0 (by omega); obtain ⟨rfl, _, rfl⟩ := Value.slice.inj hyv; clear hyv; simp only [Nat.zero_mul, Nat.add_zero] at l0 l1 l2 l3; have hyl := Zr default xl 0 (by omega); have HY := Z9 (HX.out.parts.2.2 _ hyl); have Ka : Hid (Yx p (ZW (xl.getD 0 default))) := Z9 (jW.out.all.2.2 _ (by rw [Ub]; exact List.mem_map_of_mem hyl)); have hyh : (ZW (.mk 4 xn xs (.slice (some ⟨yb, dJ, none⟩) xl.length xc) xl)).l.headD default = ZW (xl.getD 0 default) := by rw [Ub]; simp only [Z0.l]; cases xl with | nil => simp at hv4 | cons z zs => rfl
  rw [hyh] at HE; clear hyh hyl; generalize xl.getD 0 default = y at l0 l1 l2 l3 HY Ka HE; obtain ⟨yo, yn, ys, yv, yl⟩ := y; obtain ⟨ya, yd, rfl, _⟩ := HY.out.parts.1; simp only [Z0.op, Z0.n, Z0.s, Z0.lv] at l0 l1 l2 l3; obtain ⟨j, rfl⟩ : ∃ j : Nat, ia = (j : Int) := ⟨ia.toNat, by omega⟩; have hjl : j < lo.length := by have := HL.out.KZ; rw [Sn.out] at this; simp only at this; omega
  rw [Int.toNat_natCast] at HE; obtain ⟨k0, k1, k2, k3⟩ := Mh HB4.out.Eb j hjl; generalize (lo.getD j default).op = z0v at k0; generalize (lo.getD j default).n = z1v at k1; generalize (lo.getD j default).s = z2v at k2; generalize (lo.getD j default).lv = z3v at k3; have z0 := Lib.frozen_of_heap HB4.out.Eb (j * 4); have z1 := Lib.frozen_of_heap HB4.out.Eb (j * 4 + 1); have z2 := Lib.frozen_of_heap HB4.out.Eb (j * 4 + 2); have z3 := Lib.frozen_of_heap HB4.out.Eb (j * 4 + 3); have hll : lo.length = L1 + 1 := by have := HL.out.KZ; rw [Sn.out] at this; simp only at this; omega
  have hj1 : (j : Int) < ((L1 + 1 : Nat) : Int) := by omega
  have hx1 : (0 : Int) < ((xl.length : Nat) : Int) := by omega
  have acu : 0 < xl.length := by omega
  have hpa := HB4.out.put hsb j hjl yo yn ys (.slice ya yl.length yd) yl HY.out; have HP := Z9 (And.intro (hpa.1.free (both (Z4 _) (Z4 _))) (hpa.2.trans (ZG (both (Z4 _) (Z4 _))))); clear hpa; have hmap : (lo.map ZW).set j (ZW (.mk yo yn ys (.slice ya yl.length yd) yl)) = (lo.set j (.mk yo yn ys (.slice ya yl.length yd) yl)).map ZW := by rw [List.map_set]
  rw [hmap] at HE; have hk9 := Z9 HP.out.2; have hj := Z9 (Ij HL.out HP.out.1 hfr HASH.out (HS2.out.kept hk9.out) (fun y hy => (N9.out y hy).kept hk9.out) (List.length_set ..) (fun y hy => by rcases List.mem_or_eq_of_mem_set hy with h | rfl; exact HL.out.look y h; exact Ka.out) HE.out hsf (by omega) (by omega)); have N8 := (ZK HP.out.1.VL.blk).2.2.2.2.1; have hst := (ZK HL.out.base.VL.blk).2.2.2.2.1; have acv : g4 ≠ V.heap.size + 4 := fun e => hm4 (.inr (.inr e))
  have hw5 : IntKind.i64.wrap ((t : Int) + 1 + xn) = (t : Int) + 1 + xn := YJ _ (by omega) (by omega); have h4b : ((4 : Int) == 4) = true := rfl; have h4c : ((4 : Int) != 4) = false := rfl; have h5b : ¬ ib2 <= xn := by omega
  have h5c : (ib2 <= xn) = False := eq_false h5b; go_wp2_with (refine ZH rfl _ _ _ _ _ rfl _ (hsl2 _) ?_); go_region; go_wp2_with fail; go_region; go_wp2_with fail; refine Handed.intro (mu _) ?_ (hJ _ _ _ ⟨rfl, rfl, rfl, (by rw [Xi]; exact ⟨_, _, _, _, _, _, rfl, hj⟩), rfl⟩); rw [<- hmu, U7]; simp only [N8, hst, Option.getD_some, intOf]; exact VI htop hsf (Int.le_refl _)
theorem jS : TQ 14 := by
 intro p hp fuel hfu G SC M w0 sb tv st ov V hw0 hM UF fs fl N7 an NZ al k fb Ue fc HB hsb ML MC Yj cc fla TN h7 P6 NY NW HP R L1 PG hkp mu U7 rel nn wr hmu J K K1 hJ hK stk lo s o2 m he hsf t at1 ib SE TP Sn R4 Xi hw2 ia ib2 q hat w3 hz3 hq1000 hlen a c HL hc HASH fr G7 hfr Xw hsl2 hdl Vn v4 w4 HB4 HK4 Wj HS2 N9 hz4 XA hfi Qy hq act hsz hdf hpre h15 h16
 obtain ⟨at0, htop, hpos, TD, hsmall⟩ := Ww HL.out
 obtain ⟨iV, WE, UE, UD, UC⟩ := YQ XV
 obtain ⟨j0, j1, j2⟩ := XM XA
 have HRR := Z9 (Yt Qy.out)
 have heq := HL.out.eq
 rw [Yl, Sn.out] at heq
 simp only at heq
 rw [Z7 (by simpa using he), Z7 (by omega), Z7 hsf, Int.toNat_natCast, hfi, hq, List.length_map, Z7 hlen, Xw, <- List.map_drop, <- List.map_take] at heq
 have W9 := Z9 heq
 clear heq XA
 have Pn : (s.steps == fuel) = false := Zt hsf
 revert hpre h15 h16
 refine WH act hsz hdf ?_
 clear hsz hdf act
 intro u0 u1 u2 u3 u4 u5 u6 u7 u8 u9 u10 u11 u12 u13 u14 u15 u16
 intros
 rename_i hpre h15 h16
 change [u0, u1, u2, u3, u4, u5, u6, u7, u8, u9, u10, u11] = _ at hpre
 cases hpre
 change u15 = _ at h15
 change u16 = _ at h16
 subst h15 h16
 simp only [XD, Ry, Qz, Xf, Tryz.f33, Option.getD_some]
 have hE := W9.out
 simp only [Int.reduceEq, if_false, if_true] at hE
 have HE := Z9 hE
 clear hE W9
 have hR := HRR.out.2.2.2.2.2.2.2.1 rfl
 simp only at hR
 have hj := Z9 (Ij HL.out HB4.out hfr HASH.out HS2.out N9.out rfl HL.out.look HE.out hsf hR.1 (by omega))
 have N8 := (ZK HB4.out.VL.blk).2.2.2.2.1
 have hst := (ZK HL.out.base.VL.blk).2.2.2.2.1
 go_wp2_with (refine ZH rfl _ _ _ _ _ rfl _ (hsl2 _) ?_)
 refine Handed.intro (mu _) ?_ (hJ _ _ _ ⟨rfl, rfl, rfl, (by rw [Xi]; exact ⟨_, _, _, _, _, _, rfl, hj⟩), rfl⟩)
 rw [<- hmu, U7]
 simp only [N8, hst, Option.getD_some, intOf]
 exact VI htop hsf (Int.le_refl _)
theorem jR : TQ 16 := by
 intro p hp fuel hfu G SC M w0 sb tv st ov V hw0 hM UF fs fl N7 an NZ al k fb Ue fc HB hsb ML MC Yj cc fla TN h7 P6 NY NW HP R L1 PG hkp mu U7 rel nn wr hmu J K K1 hJ hK stk lo s o2 m he hsf t at1 ib SE TP Sn R4 Xi hw2 ia ib2 q hat w3 hz3 hq1000 hlen a c HL hc HASH fr G7 hfr Xw hsl2 hdl Vn v4 w4 HB4 HK4 Wj HS2 N9 hz4 XA hfi Qy hq act hsz hdf hpre h15 h16
 obtain ⟨at0, htop, hpos, TD, hsmall⟩ := Ww HL.out
 obtain ⟨iV, WE, UE, UD, UC⟩ := YQ XV
 obtain ⟨j0, j1, j2⟩ := XM XA
 have HRR := Z9 (Yt Qy.out)
 have heq := HL.out.eq
 rw [Yl, Sn.out] at heq
 simp only at heq
 rw [Z7 (by simpa using he), Z7 (by omega), Z7 hsf, Int.toNat_natCast, hfi, hq, List.length_map, Z7 hlen, Xw, <- List.map_drop, <- List.map_take] at heq
 have W9 := Z9 heq
 clear heq XA
 have Pn : (s.steps == fuel) = false := Zt hsf
 revert hpre h15 h16
 refine WH act hsz hdf ?_
 clear hsz hdf act
 intro u0 u1 u2 u3 u4 u5 u6 u7 u8 u9 u10 u11 u12 u13 u14 u15 u16
 intros
 rename_i hpre h15 h16
 change [u0, u1, u2, u3, u4, u5, u6, u7, u8, u9, u10, u11] = _ at hpre
 cases hpre
 change u15 = _ at h15
 change u16 = _ at h16
 subst h15 h16
 simp only [XD, Ry, Qz, Xf, Tryz.f33, Option.getD_some]
 have hE := W9.out
 simp only [Int.reduceEq, if_false, if_true] at hE
 have HE := Z9 hE
 clear hE W9
 have W9 := HE
 have Py := Z9 (Ym sb _ tv p.main fuel (tick s) o2 2 ia w4 HB4.out.VL)
 go_wp2_with (first
  | (refine ZH rfl _ _ _ _ _ rfl _ (hsl2 _) ?_)
  | (go_at_call 63; refine Py.out.mono ?_; rintro e w2 ⟨rfl, hs2, hE2⟩; obtain ⟨n2, hP⟩ := Xq HB4.out hsb hs2 hE2 W9.out; have HP := Z9 hP; clear hP hs2 hE2)
  | (refine Zc rfl 94 _ _ rfl (V.heap.size + 2) Zf rfl rfl 94 Zf n2 YX rfl (ZO _ rfl) ?_))
 exact Y4 (YC rfl _ _ (V.heap.size + 2) 94 _ (0, 0) _ rfl (Zd _ _ _ _ _ _ n2) Tryz.underlying94 rfl YX) rfl HP.out
end Go.Proofs.YtbcfdebdikgijaaGreatDoor
