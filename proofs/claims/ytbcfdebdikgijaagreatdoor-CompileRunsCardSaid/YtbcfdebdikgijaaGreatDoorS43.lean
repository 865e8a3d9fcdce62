/- Part of the proof; its texts: Ey8e. -/
import Derived.Test.YtbcfdebdikgijaaGreatDoorS38
set_option maxRecDepth 100000
set_option linter.unusedVariables false
set_option linter.unusedSimpArgs false
set_option maxHeartbeats 16000000
namespace Go.Proofs.YtbcfdebdikgijaaGreatDoor
open Go Go.RowKit
theorem jQ : TQ 11 := by
 intro p hp fuel hfu G SC M w0 sb tv st ov V hw0 hM UF fs fl N7 an NZ al k fb Ue fc HB hsb ML MC Yj cc fla TN h7 P6 NY NW HP R L1 PG hkp mu U7 rel nn wr hmu J K K1 hJ hK stk lo s o2 m he hsf t at1 ib SE TP Sn R4 Xi hw2 ia ib2 q hat w3 hz3 hq1000 hlen a c HL hc HASH fr G7 hfr Xw hsl2 hdl Vn v4 w4 HB4 HK4 Wj HS2 N9 hz4 XA hfi Qy hq act hsz hdf hpre h15 h16
 obtain ⟨at0, htop, hpos, TD, hsmall⟩ := Ww HL.out
 obtain ⟨iV, WE, UE, UD, UC⟩ := YQ XV
 obtain ⟨j0, j1, j2⟩ := XM XA
 have HRR := Z9 (Yt Qy.out)
 have heq := HL.out.eq
 rw [Yl, Sn.out] at heq
 simp only at heq
 rw [Z7 (by simpa using he), Z7 (by omega), Z7 hsf, Int.toNat_natCast, hfi, hq, List.length_map, Z7 hlen, Xw, <- List.map_drop, <- List.map_take] at heq
 have W9 := Z9 heq
 clear heq XA
 have Pn : (s.steps == fuel) = false := Zt hsf
 revert hpre h15 h16
 refine WH act hsz hdf ?_
 clear hsz hdf act
 intro u0 u1 u2 u3 u4 u5 u6 u7 u8 u9 u10 u11 u12 u13 u14 u15 u16
 intros
 rename_i hpre h15 h16
 change [u0, u1, u2, u3, u4, u5, u6, u7, u8, u9, u10, u11] = _ at hpre
 cases hpre
 change u15 = _ at h15
 change u16 = _ at h16
 subst h15 h16
 simp only [XD, Ry, Qz, Xf, Tryz.f33, Option.getD_some]
 have hE := W9.out
 simp only [Int.reduceEq, if_false, if_true] at hE
 have HE := Z9 hE
 clear hE W9
 obtain rfl : q = 1 := hq.symm.trans rfl
 obtain ⟨x, hx⟩ : ∃ x, stk.drop fr = [x] := List.length_eq_one_iff.1 hdl
 rw [hx] at Wj HE
 have hxm : x ∈ stk := List.mem_of_mem_drop (by rw [hx]; exact List.mem_singleton_self x)
 have HX := Z9 (N9.out x hxm)
 have jW := Z9 (HL.out.QH x hxm)
 obtain ⟨g4, UZ, c4, rfl, hc4, hm4, hg4, x0, x1, x2, x3⟩ := Vp (l := [x]) Wj.out 0 (by simp)
 obtain ⟨xo, xn, xs, xv, xl⟩ := x
 obtain ⟨xa, xc, rfl, _⟩ := HX.out.parts.1
 simp only [Nat.zero_mul, Nat.add_zero, List.getD, List.getElem?_cons_zero, Option.getD_some, Z0.op, Z0.n, Z0.s, Z0.lv, List.length_singleton] at x0 x1 x2 x3 hc4
 simp only [List.map_cons, List.map_nil, List.headD_cons] at HE
 have hR := HRR.out.2.2.2.2.2.1 (.inl rfl)
 simp only at hR
 obtain ⟨j, rfl⟩ : ∃ j : Nat, ia = (j : Int) := ⟨ia.toNat, by omega⟩
 have hpp : pushP p (ZW (.mk UF (k : Int) fs (.slice fla fl.length TN) fl)) (lo.map ZW) [ZW (.mk xo xn xs (.slice xa xl.length xc) xl)] ⟨11, (j : Int), ib2⟩ (tick s) = (if xo = 3 /\ (j : Int) < ((xl.length : Nat) : Int) then ZW (xl.getD j default) else default, tick s) := by unfold pushP; simp only [Int.reduceEq, if_false, if_true, Int.toNat_natCast, List.headD_cons, YF, Ub, List.length_map, Z0.op, Z0.l]; rw [show (List.map ZW xl).getD j default = ZW (xl.getD j default) from by rw [<- XU, List.getD, List.getD, List.getElem?_map]; cases xl[j]? <;> rfl]
 rw [hpp] at HE
 clear hpp
 by_cases hgood : xo = 3 /\ (j : Int) < ((xl.length : Nat) : Int)
 ·rw [ZY hgood] at HE
  obtain ⟨h3, aV⟩ := hgood; subst h3; have hjn : j < xl.length := by omega
  obtain ⟨yb, dJ, yq, hyv, dZ, hym, hyb, l0, l1, l2, l3⟩ := Vp HX.out.parts.1 j hjn; obtain ⟨rfl, _, rfl⟩ := Value.slice.inj hyv; clear hyv; have hyl := Zr default xl j hjn; have rH := Z9 (HX.out.parts.2.2 _ hyl); have Ec : Hid (Yx p (ZW (xl.getD j default))) := Z9 (jW.out.all.2.2 _ (by rw [Ub]; exact List.mem_map_of_mem hyl)); clear hyl; generalize xl.getD j default = y at l0 l1 l2 l3 rH Ec HE; obtain ⟨yo, yn, ys, yv, yl⟩ := y; obtain ⟨ya, yd, rfl, _⟩ := rH.out.parts.1; simp only [Z0.op, Z0.n, Z0.s, Z0.lv] at l0 l1 l2 l3; have l0a := Z5 l0 (.cells #[.int .i64 0, .int .i64 0, .string ⟨#[]⟩, .slice none 0 0] 94); have l1a := Z5 l1 (.cells #[.int .i64 0, .int .i64 0, .string ⟨#[]⟩, .slice none 0 0] 94); have l2a := Z5 l2 (.cells #[.int .i64 0, .int .i64 0, .string ⟨#[]⟩, .slice none 0 0] 94); have l3a := Z5 l3 (.cells #[.int .i64 0, .int .i64 0, .string ⟨#[]⟩, .slice none 0 0] 94); have x0a := Z5 x0 (.cells #[.int .i64 0, .int .i64 0, .string ⟨#[]⟩, .slice none 0 0] 94); have x1a := Z5 x1 (.cells #[.int .i64 0, .int .i64 0, .string ⟨#[]⟩, .slice none 0 0] 94); have x2a := Z5 x2 (.cells #[.int .i64 0, .int .i64 0, .string ⟨#[]⟩, .slice none 0 0] 94); have x3a := Z5 x3 (.cells #[.int .i64 0, .int .i64 0, .string ⟨#[]⟩, .slice none 0 0] 94); have Ef := Z5 j0 (.cells #[.int .i64 0, .int .i64 0, .string ⟨#[]⟩, .slice none 0 0] 94); have Ee := Z5 j1 (.cells #[.int .i64 0, .int .i64 0, .string ⟨#[]⟩, .slice none 0 0] 94); have Ed := Z5 j2 (.cells #[.int .i64 0, .int .i64 0, .string ⟨#[]⟩, .slice none 0 0] 94); have g25 := both (Z8 w4 (.cells #[.int .i64 yo, .int .i64 yn, .string ys, .slice ya yl.length yd] 94)) (both (Z4 _) (Z4 _)); have HB5 := Z9 (HB4.out.free g25); have HK5 := Z9 (HK4.out.trans (ZG g25)); have HX5 := Z9 (rH.out.kept (ZG g25)); have R8 := Ec; clear g25; have HT5 : Hid ((tick s).steps <= fuel) := Z9 (Ve htop hsf); have HS5 : Hid (s.steps + 1 <= (tick s).steps) := Z9 (Int.le_refl _); have HO5 : Hid ((tick s).out.length <= 1000) := Z9 HL.out.out; have hxe : (ZW (.mk yo yn ys (.slice ya yl.length yd) yl)).op = yo := YF _; have hE := HE.out; simp only [hxe] at hE; have hb3 : ((3 : Int) == 3) = true := rfl; have hjd : decide ((j : Int) < ((xl.length : Nat) : Int)) = true := decide_eq_true aV; by_cases hx0 : yo = 0
  ·rw [ZY hx0] at hE
   have W9 := Z9 hE; subst hx0; clear hE HE; go_wp2_with (refine ZH rfl _ _ _ _ _ rfl _ (hsl2 _) ?_); go_region; go_wp2_with fail; go_region; have Py := Z9 (Ym sb _ tv p.main fuel (tick s) o2 4 0 _ HB5.out.VL); go_wp2_with (first
    | (go_at_call 63; refine Py.out.mono ?_; rintro e w2 ⟨rfl, hs2, hE2⟩; obtain ⟨n2, hP⟩ := Xq HB5.out hsb hs2 hE2 W9.out; have HP := Z9 hP; clear hP hs2 hE2)
    | (refine Zc rfl 94 _ _ rfl (V.heap.size + 2) Zf rfl rfl 94 Zf n2 YX rfl (ZO _ rfl) ?_))
   exact Y4 (YC rfl _ _ (V.heap.size + 2) 94 _ (0, 0) _ rfl (Zd _ _ _ _ _ _ n2) Tryz.underlying94 rfl YX) rfl HP.out
  ·rw [Z7 hx0] at hE
   have HE5 := Z9 hE; have hxb : (yo == 0) = false := Zt hx0; clear hE HE hxe; have R7 := Vt HASH.out hfr; have MK := HL.out.stack.kept HK5.out; have Ef := Z5 j0 (.cells #[.int .i64 0, .int .i64 0, .string ⟨#[]⟩, .slice none 0 0] 94); have Ee := Z5 j1 (.cells #[.int .i64 0, .int .i64 0, .string ⟨#[]⟩, .slice none 0 0] 94); have Ed := Z5 j2 (.cells #[.int .i64 0, .int .i64 0, .string ⟨#[]⟩, .slice none 0 0] 94); have N8 := (ZK HB5.out.VL.blk).2.2.2.2.1; have hst := (ZK HL.out.base.VL.blk).2.2.2.2.1; go_wp2_with (refine ZH rfl _ _ _ _ _ rfl _ (hsl2 _) ?_); go_region; go_wp2_with fail; go_region; go_wp2_with (first
    | (refine ZH rfl _ _ _ _ _ rfl _ (hsl2 _) ?_)
    | (at_builtin; refine wpList_append_grows _ rfl _ _ 92 rfl 94 iV (.agg Zf) 4 56 Tryz.underlying92 WE UE UD UC rfl (by decide) a fr fr (ZR (stk.take fr)) rfl R7 ?dG ?dF _ 1 1 [.int .i64 yo, .int .i64 yn, .string ys, .slice ya yl.length yd] rfl rfl ?dD (KF _ _ _ _ _ _) (Nat.lt_succ_self _) ?dB ?dA ?_))
   try case dG => rw [Zg, List.length_take]; omega
   try case dF => intro b hb j u hj; exact Wo (VR (HL.out.stack.kept (HK5.out.trans (ZG (Z8 _ _)))) fr hfr) hb hj
   try case dD => exact World.news_of_block (cs := #[.int .i64 yo, .int .i64 yn, .string ys, .slice ya yl.length yd]) (ZF (by simp) _)
   try case dB => unfold maxLen; omega
   try case dA => omega
   intro v6 w6 hown6 Y6; have hj := Z9 (Vx HL.out HB5.out HK5.out hfr (fun b hb => Nat.lt_of_lt_of_le (Vn b hb) (by simp; omega)) HX5.out R8.out HE5.out HS5.out HT5.out HO5.out (by omega) (by omega) (Z8 _ _) (by simp) hown6 Y6); have R6 := (ZK hj.out.base.VL.blk).2.2.2.2.1; clear hown6 Y6; go_wp2_with fail; refine Handed.intro (mu _) ?_ (hJ _ _ _ ⟨rfl, rfl, rfl, (by rw [Xi]; exact ⟨_, _, _, _, _, _, rfl, hj⟩), rfl⟩); rw [<- hmu, U7]; simp only [R6, hst, Option.getD_some, intOf]; exact VI htop hsf HS5.out
 ·rw [Z7 hgood] at HE
  have hd0 : (default : ZT).op = 0 := rfl; have hE := HE.out; simp only [hd0, if_true] at hE; have W9 := Z9 hE; clear hE HE hd0; have g25 := both (Z8 w4 (.cells Zf 94)) (Z4 _); have HB5 := Z9 (HB4.out.free g25); clear g25; have x0a := Z5 x0 (.cells #[.int .i64 0, .int .i64 0, .string ⟨#[]⟩, .slice none 0 0] 94); have x1a := Z5 x1 (.cells #[.int .i64 0, .int .i64 0, .string ⟨#[]⟩, .slice none 0 0] 94); have x2a := Z5 x2 (.cells #[.int .i64 0, .int .i64 0, .string ⟨#[]⟩, .slice none 0 0] 94); have x3a := Z5 x3 (.cells #[.int .i64 0, .int .i64 0, .string ⟨#[]⟩, .slice none 0 0] 94); have Ef := Z5 j0 (.cells #[.int .i64 0, .int .i64 0, .string ⟨#[]⟩, .slice none 0 0] 94); have Ee := Z5 j1 (.cells #[.int .i64 0, .int .i64 0, .string ⟨#[]⟩, .slice none 0 0] 94); have Ed := Z5 j2 (.cells #[.int .i64 0, .int .i64 0, .string ⟨#[]⟩, .slice none 0 0] 94); by_cases h3 : xo = 3
  ·subst h3
   have aV : ¬ (j : Int) < ((xl.length : Nat) : Int) := fun h => hgood ⟨rfl, h⟩
   have hjf : ((j : Int) < ((xl.length : Nat) : Int)) = False := eq_false aV; have hjd : decide ((j : Int) < ((xl.length : Nat) : Int)) = false := YR aV; have hb3 : ((3 : Int) == 3) = true := rfl; go_wp2_with (refine ZH rfl _ _ _ _ _ rfl _ (hsl2 _) ?_); go_region; have Py := Z9 (Ym sb _ tv p.main fuel (tick s) o2 4 0 _ HB5.out.VL); go_wp2_with (first
    | (go_at_call 63; refine Py.out.mono ?_; rintro e w2 ⟨rfl, hs2, hE2⟩; obtain ⟨n2, hP⟩ := Xq HB5.out hsb hs2 hE2 W9.out; have HP := Z9 hP; clear hP hs2 hE2)
    | (refine Zc rfl 94 _ _ rfl (V.heap.size + 2) Zf rfl rfl 94 Zf n2 YX rfl (ZO _ rfl) ?_))
   exact Y4 (YC rfl _ _ (V.heap.size + 2) 94 _ (0, 0) _ rfl (Zd _ _ _ _ _ _ n2) Tryz.underlying94 rfl YX) rfl HP.out
  ·have h3b : (xo == 3) = false := Zt h3
   go_wp2_with (refine ZH rfl _ _ _ _ _ rfl _ (hsl2 _) ?_); go_region; have Py := Z9 (Ym sb _ tv p.main fuel (tick s) o2 4 0 _ HB5.out.VL); go_wp2_with (first
    | (go_at_call 63; refine Py.out.mono ?_; rintro e w2 ⟨rfl, hs2, hE2⟩; obtain ⟨n2, hP⟩ := Xq HB5.out hsb hs2 hE2 W9.out; have HP := Z9 hP; clear hP hs2 hE2)
    | (refine Zc rfl 94 _ _ rfl (V.heap.size + 2) Zf rfl rfl 94 Zf n2 YX rfl (ZO _ rfl) ?_))
   exact Y4 (YC rfl _ _ (V.heap.size + 2) 94 _ (0, 0) _ rfl (Zd _ _ _ _ _ _ n2) Tryz.underlying94 rfl YX) rfl HP.out
end Go.Proofs.YtbcfdebdikgijaaGreatDoor
