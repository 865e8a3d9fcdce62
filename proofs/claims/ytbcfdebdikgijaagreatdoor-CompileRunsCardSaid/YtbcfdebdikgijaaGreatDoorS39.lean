/- Part of the proof; its texts: Ey8a. -/
import Derived.Test.YtbcfdebdikgijaaGreatDoorS38
set_option maxRecDepth 100000
set_option linter.unusedVariables false
set_option linter.unusedSimpArgs false
set_option maxHeartbeats 16000000
namespace Go.Proofs.YtbcfdebdikgijaaGreatDoor
open Go Go.RowKit
theorem dU : TQ 1 := by
 intro p hp fuel hfu G SC M w0 sb tv st ov V hw0 hM UF fs fl N7 an NZ al k fb Ue fc HB hsb ML MC Yj cc fla TN h7 P6 NY NW HP R L1 PG hkp mu U7 rel nn wr hmu J K K1 hJ hK stk lo s o2 m he hsf t at1 ib SE TP Sn R4 Xi hw2 ia ib2 q hat w3 hz3 hq1000 hlen a c HL hc HASH fr G7 hfr Xw hsl2 hdl Vn v4 w4 HB4 HK4 Wj HS2 N9 hz4 XA hfi Qy hq act hsz hdf hpre h15 h16
 obtain ⟨at0, htop, hpos, TD, hsmall⟩ := Ww HL.out
 obtain ⟨iV, WE, UE, UD, UC⟩ := YQ XV
 obtain ⟨j0, j1, j2⟩ := XM XA
 have HRR := Z9 (Yt Qy.out)
 have heq := HL.out.eq
 rw [Yl, Sn.out] at heq
 simp only at heq
 rw [Z7 (by simpa using he), Z7 (by omega), Z7 hsf, Int.toNat_natCast, hfi, hq, List.length_map, Z7 hlen, Xw, <- List.map_drop, <- List.map_take] at heq
 have W9 := Z9 heq
 clear heq XA
 have Pn : (s.steps == fuel) = false := Zt hsf
 revert hpre h15 h16
 refine WH act hsz hdf ?_
 clear hsz hdf act
 intro u0 u1 u2 u3 u4 u5 u6 u7 u8 u9 u10 u11 u12 u13 u14 u15 u16
 intros
 rename_i hpre h15 h16
 change [u0, u1, u2, u3, u4, u5, u6, u7, u8, u9, u10, u11] = _ at hpre
 cases hpre
 change u15 = _ at h15
 change u16 = _ at h16
 subst h15 h16
 simp only [XD, Ry, Qz, Xf, Tryz.f33, Option.getD_some]
 have hE := W9.out
 simp only [Int.reduceEq, if_false, if_true] at hE
 have HE := Z9 hE
 clear hE W9
 have hpp : pushP p (ZW (.mk UF (k : Int) fs (.slice fla fl.length TN) fl)) (lo.map ZW) ((stk.drop fr).map ZW) ⟨1, ia, ib2⟩ (tick s) = (ZW (.mk 1 ia ⟨#[]⟩ (.slice none 0 0) []), tick s) := by unfold pushP; simp only [Int.reduceEq, if_false, if_true, Y2, XZ, List.map_nil]
 rw [hpp] at HE
 have hE := HE.out
 have hx0 : ¬ (ZW (.mk 1 ia ⟨#[]⟩ (.slice none 0 0) [])).op = 0 := by rw [YF]; show ¬ (1 : Int) = 0; decide
 simp only [hx0, if_false] at hE
 have HE5 := Z9 hE
 clear hE HE hpp hx0
 have HB5 := Z9 (HB4.out.free (Z8 w4 (.cells #[.int .i64 1, .int .i64 ia, .string ⟨#[]⟩, .slice none 0 0] 94)))
 have HK5 := Z9 (HK4.out.trans (ZG (Z8 w4 (.cells #[.int .i64 1, .int .i64 ia, .string ⟨#[]⟩, .slice none 0 0] 94))))
 have hxw : R9 (Mine M V.heap.size) w4 (.mk 1 ia ⟨#[]⟩ (.slice none 0 0) []) := Wp _ _ _ _ _
 have HX5 := Z9 (hxw.kept (ZG (Z8 w4 (.cells #[.int .i64 1, .int .i64 ia, .string ⟨#[]⟩, .slice none 0 0] 94))))
 have R8 : Hid (Yx p (ZW (.mk 1 ia ⟨#[]⟩ (.slice none 0 0) []))) := Z9 (by rw [Y2, stripL]; exact WA p _ _ _ (by decide) (by decide))
 clear hxw
 have HT5 : Hid ((tick s).steps <= fuel) := Z9 (Ve htop hsf)
 have HS5 : Hid (s.steps + 1 <= (tick s).steps) := Z9 (Int.le_refl _)
 have HO5 : Hid ((tick s).out.length <= 1000) := Z9 HL.out.out
 have R7 := Vt HASH.out hfr
 have MK := HL.out.stack.kept HK5.out
 have Ef := Z5 j0 (.cells #[.int .i64 0, .int .i64 0, .string ⟨#[]⟩, .slice none 0 0] 94)
 have Ee := Z5 j1 (.cells #[.int .i64 0, .int .i64 0, .string ⟨#[]⟩, .slice none 0 0] 94)
 have Ed := Z5 j2 (.cells #[.int .i64 0, .int .i64 0, .string ⟨#[]⟩, .slice none 0 0] 94)
 have N8 := (ZK HB5.out.VL.blk).2.2.2.2.1
 have hst := (ZK HL.out.base.VL.blk).2.2.2.2.1
 go_wp2_with (first
  | (refine ZH rfl _ _ _ _ _ rfl _ (hsl2 _) ?_)
  | (at_builtin; refine wpList_append_grows _ rfl _ _ 92 rfl 94 iV (.agg Zf) 4 56 Tryz.underlying92 WE UE UD UC rfl (by decide) a fr fr (ZR (stk.take fr)) rfl R7 ?aaS ?aaT _ 1 1 [.int .i64 1, .int .i64 ia, .string ⟨#[]⟩, .slice none 0 0] rfl rfl ?aaU (KF _ _ _ _ _ _) (Nat.lt_succ_self _) ?aaV ?aaW ?_))
 try case aaS => rw [Zg, List.length_take]; omega
 try case aaT => intro b hb j u hj; exact Wo (VR (HL.out.stack.kept (HK5.out.trans (ZG (Z8 _ _)))) fr hfr) hb hj
 try case aaU => exact World.news_of_block (cs := #[.int .i64 1, .int .i64 ia, .string ⟨#[]⟩, .slice none 0 0]) (ZF (by simp) _)
 try case aaV => unfold maxLen; omega
 try case aaW => omega
 intro v6 w6 hown6 Y6
 have hj := Z9 (Vx HL.out HB5.out HK5.out hfr (fun b hb => Nat.lt_of_lt_of_le (Vn b hb) (by simp; omega)) HX5.out R8.out HE5.out HS5.out HT5.out HO5.out (by omega) (by omega) (Z8 _ _) (by simp) hown6 Y6)
 have R6 := (ZK hj.out.base.VL.blk).2.2.2.2.1
 clear hown6 Y6
 go_wp2_with fail
 refine Handed.intro (mu _) ?_ (hJ _ _ _ ⟨rfl, rfl, rfl, (by rw [Xi]; exact ⟨_, _, _, _, _, _, rfl, hj⟩), rfl⟩)
 rw [<- hmu, U7]
 simp only [R6, hst, Option.getD_some, intOf]
 exact VI htop hsf HS5.out
theorem dS : TQ 2 := by
 intro p hp fuel hfu G SC M w0 sb tv st ov V hw0 hM UF fs fl N7 an NZ al k fb Ue fc HB hsb ML MC Yj cc fla TN h7 P6 NY NW HP R L1 PG hkp mu U7 rel nn wr hmu J K K1 hJ hK stk lo s o2 m he hsf t at1 ib SE TP Sn R4 Xi hw2 ia ib2 q hat w3 hz3 hq1000 hlen a c HL hc HASH fr G7 hfr Xw hsl2 hdl Vn v4 w4 HB4 HK4 Wj HS2 N9 hz4 XA hfi Qy hq act hsz hdf hpre h15 h16
 obtain ⟨at0, htop, hpos, TD, hsmall⟩ := Ww HL.out
 obtain ⟨iV, WE, UE, UD, UC⟩ := YQ XV
 obtain ⟨j0, j1, j2⟩ := XM XA
 have HRR := Z9 (Yt Qy.out)
 have heq := HL.out.eq
 rw [Yl, Sn.out] at heq
 simp only at heq
 rw [Z7 (by simpa using he), Z7 (by omega), Z7 hsf, Int.toNat_natCast, hfi, hq, List.length_map, Z7 hlen, Xw, <- List.map_drop, <- List.map_take] at heq
 have W9 := Z9 heq
 clear heq XA
 have Pn : (s.steps == fuel) = false := Zt hsf
 revert hpre h15 h16
 refine WH act hsz hdf ?_
 clear hsz hdf act
 intro u0 u1 u2 u3 u4 u5 u6 u7 u8 u9 u10 u11 u12 u13 u14 u15 u16
 intros
 rename_i hpre h15 h16
 change [u0, u1, u2, u3, u4, u5, u6, u7, u8, u9, u10, u11] = _ at hpre
 cases hpre
 change u15 = _ at h15
 change u16 = _ at h16
 subst h15 h16
 simp only [XD, Ry, Qz, Xf, Tryz.f33, Option.getD_some]
 have hE := W9.out
 simp only [Int.reduceEq, if_false, if_true] at hE
 have HE := Z9 hE
 clear hE W9
 have hR := HRR.out.1 rfl
 simp only at hR
 obtain ⟨j, rfl⟩ : ∃ j : Nat, ia = (j : Int) := ⟨ia.toNat, by omega⟩
 have hjl : j < p.texts.length := by omega
 have hB0 := HB.out.trans (HB4.out.em.below (by omega) hsb (fun q hq => by have := (Zw PG.out q hq).1; omega))
 obtain ⟨tb, FJ, tc, zA, _, _, t0⟩ := Vj (Xe.below HP.out.2 hB0) j hjl
 clear hB0
 have hpp : pushP p (ZW (.mk UF (k : Int) fs (.slice fla fl.length TN) fl)) (lo.map ZW) ((stk.drop fr).map ZW) ⟨2, (j : Int), ib2⟩ (tick s) = (.mk 2 0 (p.texts.getD j default) [], tick s) := by unfold pushP; simp only [show ¬ (2 : Int) = 1 by decide, if_false, if_true, Int.toNat_natCast]
 rw [hpp] at HE
 clear hpp
 generalize p.texts.getD j default = xt at t0 HE
 have hxs : ZW (.mk 2 0 xt (.slice none 0 0) []) = .mk 2 0 xt [] := by rw [Y2, stripL]
 rw [<- hxs] at HE
 have hE := HE.out
 have hx0 : ¬ (ZW (.mk 2 0 xt (.slice none 0 0) [])).op = 0 := by rw [YF]; show ¬ (2 : Int) = 0; decide
 simp only [hx0, if_false] at hE
 have HE5 := Z9 hE
 clear hE HE hx0
 obtain ⟨q0, q1, q2, q3, q4, q5, q6, q7⟩ := ZK HB4.out.VL.blk
 rw [zA] at q1
 clear q0 q2 q3 q4 q5 q6 q7
 have q1a := Z5 q1 (.cells #[.int .i64 0, .int .i64 0, .string ⟨#[]⟩, .slice none 0 0] 94)
 have t0a := Z5 t0 (.cells #[.int .i64 0, .int .i64 0, .string ⟨#[]⟩, .slice none 0 0] 94)
 have hjt : (j : Int) < ((p.texts.length : Nat) : Int) := by omega
 have g25 := both (Z8 w4 (.cells #[.int .i64 2, .int .i64 0, .string xt, .slice none 0 0] 94)) (Z4 _)
 have HB5 := Z9 (HB4.out.free g25)
 have HK5 := Z9 (HK4.out.trans (ZG g25))
 have HX5 := Z9 (Wp (Mine M V.heap.size) (w4.alloc (.cells #[.int .i64 2, .int .i64 0, .string xt, .slice none 0 0] 94)).drew 2 0 xt)
 have R8 : Hid (Yx p (ZW (.mk 2 0 xt (.slice none 0 0) []))) := Z9 (by rw [hxs]; exact WA p _ _ _ (by decide) (by decide))
 clear g25 hxs
 have HT5 : Hid ((tick s).steps <= fuel) := Z9 (Ve htop hsf)
 have HS5 : Hid (s.steps + 1 <= (tick s).steps) := Z9 (Int.le_refl _)
 have HO5 : Hid ((tick s).out.length <= 1000) := Z9 HL.out.out
 have R7 := Vt HASH.out hfr
 have MK := HL.out.stack.kept HK5.out
 have Ef := Z5 j0 (.cells #[.int .i64 0, .int .i64 0, .string ⟨#[]⟩, .slice none 0 0] 94)
 have Ee := Z5 j1 (.cells #[.int .i64 0, .int .i64 0, .string ⟨#[]⟩, .slice none 0 0] 94)
 have Ed := Z5 j2 (.cells #[.int .i64 0, .int .i64 0, .string ⟨#[]⟩, .slice none 0 0] 94)
 have N8 := (ZK HB5.out.VL.blk).2.2.2.2.1
 have hst := (ZK HL.out.base.VL.blk).2.2.2.2.1
 go_wp2_with (refine ZH rfl _ _ _ _ _ rfl _ (hsl2 _) ?_)
 go_region
 go_wp2_with (first
  | (refine ZH rfl _ _ _ _ _ rfl _ (hsl2 _) ?_)
  | (at_builtin; refine wpList_append_grows _ rfl _ _ 92 rfl 94 iV (.agg Zf) 4 56 Tryz.underlying92 WE UE UD UC rfl (by decide) a fr fr (ZR (stk.take fr)) rfl R7 ?aaX ?aaY _ 1 1 [.int .i64 2, .int .i64 0, .string xt, .slice none 0 0] rfl rfl ?aaZ (KF _ _ _ _ _ _) (Nat.lt_succ_self _) ?aa0 ?aa1 ?_))
 try case aaX => rw [Zg, List.length_take]; omega
 try case aaY => intro b hb j u hj; exact Wo (VR (HL.out.stack.kept (HK5.out.trans (ZG (Z8 _ _)))) fr hfr) hb hj
 try case aaZ => exact World.news_of_block (cs := #[.int .i64 2, .int .i64 0, .string xt, .slice none 0 0]) (ZF (by simp) _)
 try case aa0 => unfold maxLen; omega
 try case aa1 => omega
 intro v6 w6 hown6 Y6
 have hj := Z9 (Vx HL.out HB5.out HK5.out hfr (fun b hb => Nat.lt_of_lt_of_le (Vn b hb) (by simp; omega)) HX5.out R8.out HE5.out HS5.out HT5.out HO5.out (by omega) (by omega) (Z8 _ _) (by simp) hown6 Y6)
 have R6 := (ZK hj.out.base.VL.blk).2.2.2.2.1
 clear hown6 Y6
 go_wp2_with fail
 refine Handed.intro (mu _) ?_ (hJ _ _ _ ⟨rfl, rfl, rfl, (by rw [Xi]; exact ⟨_, _, _, _, _, _, rfl, hj⟩), rfl⟩)
 rw [<- hmu, U7]
 simp only [R6, hst, Option.getD_some, intOf]
 exact VI htop hsf HS5.out
theorem dR : TQ 3 := by
 intro p hp fuel hfu G SC M w0 sb tv st ov V hw0 hM UF fs fl N7 an NZ al k fb Ue fc HB hsb ML MC Yj cc fla TN h7 P6 NY NW HP R L1 PG hkp mu U7 rel nn wr hmu J K K1 hJ hK stk lo s o2 m he hsf t at1 ib SE TP Sn R4 Xi hw2 ia ib2 q hat w3 hz3 hq1000 hlen a c HL hc HASH fr G7 hfr Xw hsl2 hdl Vn v4 w4 HB4 HK4 Wj HS2 N9 hz4 XA hfi Qy hq act hsz hdf hpre h15 h16
 obtain ⟨at0, htop, hpos, TD, hsmall⟩ := Ww HL.out
 obtain ⟨iV, WE, UE, UD, UC⟩ := YQ XV
 obtain ⟨j0, j1, j2⟩ := XM XA
 have HRR := Z9 (Yt Qy.out)
 have heq := HL.out.eq
 rw [Yl, Sn.out] at heq
 simp only at heq
 rw [Z7 (by simpa using he), Z7 (by omega), Z7 hsf, Int.toNat_natCast, hfi, hq, List.length_map, Z7 hlen, Xw, <- List.map_drop, <- List.map_take] at heq
 have W9 := Z9 heq
 clear heq XA
 have Pn : (s.steps == fuel) = false := Zt hsf
 revert hpre h15 h16
 refine WH act hsz hdf ?_
 clear hsz hdf act
 intro u0 u1 u2 u3 u4 u5 u6 u7 u8 u9 u10 u11 u12 u13 u14 u15 u16
 intros
 rename_i hpre h15 h16
 change [u0, u1, u2, u3, u4, u5, u6, u7, u8, u9, u10, u11] = _ at hpre
 cases hpre
 change u15 = _ at h15
 change u16 = _ at h16
 subst h15 h16
 simp only [XD, Ry, Qz, Xf, Tryz.f33, Option.getD_some]
 have hE := W9.out
 simp only [Int.reduceEq, if_false, if_true] at hE
 have HE := Z9 hE
 clear hE W9
 have hR := HRR.out.2.1 (.inl rfl)
 simp only at hR
 obtain ⟨j, rfl⟩ : ∃ j : Nat, ia = (j : Int) := ⟨ia.toNat, by omega⟩
 have hll : lo.length = L1 + 1 := by have := HL.out.KZ; rw [Sn.out] at this; simp only at this; omega
 have hjl : j < lo.length := by omega
 have hj1 : (j : Int) < ((L1 + 1 : Nat) : Int) := by omega
 obtain ⟨l0, l1, l2, l3⟩ := Mh HB4.out.Eb j hjl
 have hxm := Zr default lo j hjl
 have rH := Z9 (show R9 (Mine M V.heap.size) w4 (lo.getD j default) from HB4.out.bM _ hxm)
 have Ec := Z9 (show Yx p (ZW (lo.getD j default)) from HL.out.look _ hxm)
 have hpp : pushP p (ZW (.mk UF (k : Int) fs (.slice fla fl.length TN) fl)) (lo.map ZW) ((stk.drop fr).map ZW) ⟨3, (j : Int), ib2⟩ (tick s) = (ZW (lo.getD j default), tick s) := by unfold pushP; simp only [Int.reduceEq, if_false, if_true, Int.toNat_natCast]; rw [show (List.map ZW lo).getD j default = ZW (lo.getD j default) from by rw [<- XU, List.getD, List.getD, List.getElem?_map]; cases lo[j]? <;> rfl]
 rw [hpp] at HE
 clear hpp
 generalize lo.getD j default = x at l0 l1 l2 l3 rH Ec HE
 obtain ⟨xo, xn, xs, xv, xl⟩ := x
 obtain ⟨xa, xc, rfl, _⟩ := rH.out.parts.1
 simp only [Z0.op, Z0.n, Z0.s, Z0.lv] at l0 l1 l2 l3
 have l0a := Z5 l0 (.cells #[.int .i64 0, .int .i64 0, .string ⟨#[]⟩, .slice none 0 0] 94)
 have l1a := Z5 l1 (.cells #[.int .i64 0, .int .i64 0, .string ⟨#[]⟩, .slice none 0 0] 94)
 have l2a := Z5 l2 (.cells #[.int .i64 0, .int .i64 0, .string ⟨#[]⟩, .slice none 0 0] 94)
 have l3a := Z5 l3 (.cells #[.int .i64 0, .int .i64 0, .string ⟨#[]⟩, .slice none 0 0] 94)
 have HB5 := Z9 (HB4.out.free (Z8 w4 (.cells #[.int .i64 xo, .int .i64 xn, .string xs, .slice xa xl.length xc] 94)))
 have HK5 := Z9 (HK4.out.trans (ZG (Z8 w4 (.cells #[.int .i64 xo, .int .i64 xn, .string xs, .slice xa xl.length xc] 94))))
 have HX5 := Z9 (rH.out.kept (ZG (Z8 w4 (.cells #[.int .i64 xo, .int .i64 xn, .string xs, .slice xa xl.length xc] 94))))
 have R8 := Ec
 have HT5 : Hid ((tick s).steps <= fuel) := Z9 (Ve htop hsf)
 have HS5 : Hid (s.steps + 1 <= (tick s).steps) := Z9 (Int.le_refl _)
 have HO5 : Hid ((tick s).out.length <= 1000) := Z9 HL.out.out
 have hxe : (ZW (.mk xo xn xs (.slice xa xl.length xc) xl)).op = xo := YF _
 have hE := HE.out
 simp only [hxe] at hE
 by_cases hx0 : xo = 0
 ·rw [ZY hx0] at hE
  have W9 := Z9 hE; subst hx0; clear hE HE; have Ef := Z5 j0 (.cells #[.int .i64 0, .int .i64 0, .string ⟨#[]⟩, .slice none 0 0] 94); have Ee := Z5 j1 (.cells #[.int .i64 0, .int .i64 0, .string ⟨#[]⟩, .slice none 0 0] 94); have Ed := Z5 j2 (.cells #[.int .i64 0, .int .i64 0, .string ⟨#[]⟩, .slice none 0 0] 94); have Py := Z9 (Ym sb _ tv p.main fuel (tick s) o2 4 0 _ HB5.out.VL); go_wp2_with (first
   | (refine ZH rfl _ _ _ _ _ rfl _ (hsl2 _) ?_)
   | (go_at_call 63; refine Py.out.mono ?_; rintro e w2 ⟨rfl, hs2, hE2⟩; obtain ⟨n2, hP⟩ := Xq HB5.out hsb hs2 hE2 W9.out; have HP := Z9 hP; clear hP hs2 hE2)
   | (refine Zc rfl 94 _ _ rfl (V.heap.size + 2) Zf rfl rfl 94 Zf n2 YX rfl (ZO _ rfl) ?_))
  exact Y4 (YC rfl _ _ (V.heap.size + 2) 94 _ (0, 0) _ rfl (Zd _ _ _ _ _ _ n2) Tryz.underlying94 rfl YX) rfl HP.out
 ·rw [Z7 hx0] at hE
  have HE5 := Z9 hE; have hxb : (xo == 0) = false := Zt hx0; clear hE HE hxe; have R7 := Vt HASH.out hfr; have MK := HL.out.stack.kept HK5.out; have Ef := Z5 j0 (.cells #[.int .i64 0, .int .i64 0, .string ⟨#[]⟩, .slice none 0 0] 94); have Ee := Z5 j1 (.cells #[.int .i64 0, .int .i64 0, .string ⟨#[]⟩, .slice none 0 0] 94); have Ed := Z5 j2 (.cells #[.int .i64 0, .int .i64 0, .string ⟨#[]⟩, .slice none 0 0] 94); have N8 := (ZK HB5.out.VL.blk).2.2.2.2.1; have hst := (ZK HL.out.base.VL.blk).2.2.2.2.1; go_wp2_with (first
   | (refine ZH rfl _ _ _ _ _ rfl _ (hsl2 _) ?_)
   | (at_builtin; refine wpList_append_grows _ rfl _ _ 92 rfl 94 iV (.agg Zf) 4 56 Tryz.underlying92 WE UE UD UC rfl (by decide) a fr fr (ZR (stk.take fr)) rfl R7 ?aa2 ?aa3 _ 1 1 [.int .i64 xo, .int .i64 xn, .string xs, .slice xa xl.length xc] rfl rfl ?aa4 (KF _ _ _ _ _ _) (Nat.lt_succ_self _) ?aa5 ?aa6 ?_))
  try case aa2 => rw [Zg, List.length_take]; omega
  try case aa3 => intro b hb j u hj; exact Wo (VR (HL.out.stack.kept (HK5.out.trans (ZG (Z8 _ _)))) fr hfr) hb hj
  try case aa4 => exact World.news_of_block (cs := #[.int .i64 xo, .int .i64 xn, .string xs, .slice xa xl.length xc]) (ZF (by simp) _)
  try case aa5 => unfold maxLen; omega
  try case aa6 => omega
  intro v6 w6 hown6 Y6; have hj := Z9 (Vx HL.out HB5.out HK5.out hfr (fun b hb => Nat.lt_of_lt_of_le (Vn b hb) (by simp; omega)) HX5.out R8.out HE5.out HS5.out HT5.out HO5.out (by omega) (by omega) (Z8 _ _) (by simp) hown6 Y6); have R6 := (ZK hj.out.base.VL.blk).2.2.2.2.1; clear hown6 Y6; go_wp2_with fail; refine Handed.intro (mu _) ?_ (hJ _ _ _ ⟨rfl, rfl, rfl, (by rw [Xi]; exact ⟨_, _, _, _, _, _, rfl, hj⟩), rfl⟩); rw [<- hmu, U7]; simp only [R6, hst, Option.getD_some, intOf]; exact VI htop hsf HS5.out
theorem dQ : TQ 5 := by
 intro p hp fuel hfu G SC M w0 sb tv st ov V hw0 hM UF fs fl N7 an NZ al k fb Ue fc HB hsb ML MC Yj cc fla TN h7 P6 NY NW HP R L1 PG hkp mu U7 rel nn wr hmu J K K1 hJ hK stk lo s o2 m he hsf t at1 ib SE TP Sn R4 Xi hw2 ia ib2 q hat w3 hz3 hq1000 hlen a c HL hc HASH fr G7 hfr Xw hsl2 hdl Vn v4 w4 HB4 HK4 Wj HS2 N9 hz4 XA hfi Qy hq act hsz hdf hpre h15 h16
 obtain ⟨at0, htop, hpos, TD, hsmall⟩ := Ww HL.out
 obtain ⟨iV, WE, UE, UD, UC⟩ := YQ XV
 obtain ⟨j0, j1, j2⟩ := XM XA
 have HRR := Z9 (Yt Qy.out)
 have heq := HL.out.eq
 rw [Yl, Sn.out] at heq
 simp only at heq
 rw [Z7 (by simpa using he), Z7 (by omega), Z7 hsf, Int.toNat_natCast, hfi, hq, List.length_map, Z7 hlen, Xw, <- List.map_drop, <- List.map_take] at heq
 have W9 := Z9 heq
 clear heq XA
 have Pn : (s.steps == fuel) = false := Zt hsf
 revert hpre h15 h16
 refine WH act hsz hdf ?_
 clear hsz hdf act
 intro u0 u1 u2 u3 u4 u5 u6 u7 u8 u9 u10 u11 u12 u13 u14 u15 u16
 intros
 rename_i hpre h15 h16
 change [u0, u1, u2, u3, u4, u5, u6, u7, u8, u9, u10, u11] = _ at hpre
 cases hpre
 change u15 = _ at h15
 change u16 = _ at h16
 subst h15 h16
 simp only [XD, Ry, Qz, Xf, Tryz.f33, Option.getD_some]
 have hE := W9.out
 simp only [Int.reduceEq, if_false, if_true] at hE
 have HE := Z9 hE
 clear hE W9
 have hR := HRR.out.2.2.1 rfl
 simp only at hR
 obtain ⟨j, rfl⟩ : ∃ j : Nat, ia = (j : Int) := ⟨ia.toNat, by omega⟩
 have dP := P6.out.all
 have hcl := (dP.1 (by rw [YF]; exact h7)).2.2
 rw [Ub, List.length_map, Uc] at hcl
 change ((fl.length : Nat) : Int) = (p.Zu.getD ((k : Int)).toNat default).c at hcl
 rw [Int.toNat_natCast, R4.out] at hcl
 simp only at hcl
 have hjl : j < fl.length := by omega
 have hj1 : (j : Int) < ((fl.length : Nat) : Int) := by omega
 obtain ⟨cb, dO, cq, hv, hcq, _, hcb, l0, l1, l2, l3⟩ := Vp HB4.out.yS.parts.1 j hjl
 obtain ⟨rfl, _, rfl⟩ := Value.slice.inj hv
 clear hv
 have hxm := Zr default fl j hjl
 obtain ⟨b0, b1, b2, b3⟩ := YV HB4.out.yR
 simp only [Z0.op, Z0.n, Z0.s, Z0.lv] at b0 b1 b2 b3
 have b0a := Z5 b0 (.cells #[.int .i64 0, .int .i64 0, .string ⟨#[]⟩, .slice none 0 0] 94)
 have b1a := Z5 b1 (.cells #[.int .i64 0, .int .i64 0, .string ⟨#[]⟩, .slice none 0 0] 94)
 have b2a := Z5 b2 (.cells #[.int .i64 0, .int .i64 0, .string ⟨#[]⟩, .slice none 0 0] 94)
 have b3a := Z5 b3 (.cells #[.int .i64 0, .int .i64 0, .string ⟨#[]⟩, .slice none 0 0] 94)
 have rH := Z9 (show R9 (Mine M V.heap.size) w4 (fl.getD j default) from HB4.out.yS.parts.2.2 _ hxm)
 have Ec := Z9 (show Yx p (ZW (fl.getD j default)) from dP.2.2 _ (by rw [Ub]; exact List.mem_map_of_mem hxm))
 have hpp : pushP p (ZW (.mk UF (k : Int) fs (.slice (some ⟨cb, dO, none⟩) fl.length TN) fl)) (lo.map ZW) ((stk.drop fr).map ZW) ⟨5, (j : Int), ib2⟩ (tick s) = (ZW (fl.getD j default), tick s) := by unfold pushP; simp only [Int.reduceEq, if_false, if_true, Int.toNat_natCast]; rw [show (ZW (.mk UF (k : Int) fs (.slice (some ⟨cb, dO, none⟩) fl.length TN) fl)).l = fl.map ZW from Ub _, show (List.map ZW fl).getD j default = ZW (fl.getD j default) from by rw [<- XU, List.getD, List.getD, List.getElem?_map]; cases fl[j]? <;> rfl]
 rw [hpp] at HE
 clear hpp
 generalize fl.getD j default = x at l0 l1 l2 l3 rH Ec HE
 obtain ⟨xo, xn, xs, xv, xl⟩ := x
 obtain ⟨xa, xc, rfl, _⟩ := rH.out.parts.1
 simp only [Z0.op, Z0.n, Z0.s, Z0.lv] at l0 l1 l2 l3
 have l0a := Z5 l0 (.cells #[.int .i64 0, .int .i64 0, .string ⟨#[]⟩, .slice none 0 0] 94)
 have l1a := Z5 l1 (.cells #[.int .i64 0, .int .i64 0, .string ⟨#[]⟩, .slice none 0 0] 94)
 have l2a := Z5 l2 (.cells #[.int .i64 0, .int .i64 0, .string ⟨#[]⟩, .slice none 0 0] 94)
 have l3a := Z5 l3 (.cells #[.int .i64 0, .int .i64 0, .string ⟨#[]⟩, .slice none 0 0] 94)
 have HB5 := Z9 (HB4.out.free (Z8 w4 (.cells #[.int .i64 xo, .int .i64 xn, .string xs, .slice xa xl.length xc] 94)))
 have HK5 := Z9 (HK4.out.trans (ZG (Z8 w4 (.cells #[.int .i64 xo, .int .i64 xn, .string xs, .slice xa xl.length xc] 94))))
 have HX5 := Z9 (rH.out.kept (ZG (Z8 w4 (.cells #[.int .i64 xo, .int .i64 xn, .string xs, .slice xa xl.length xc] 94))))
 have R8 := Ec
 have HT5 : Hid ((tick s).steps <= fuel) := Z9 (Ve htop hsf)
 have HS5 : Hid (s.steps + 1 <= (tick s).steps) := Z9 (Int.le_refl _)
 have HO5 : Hid ((tick s).out.length <= 1000) := Z9 HL.out.out
 have hxe : (ZW (.mk xo xn xs (.slice xa xl.length xc) xl)).op = xo := YF _
 have hE := HE.out
 simp only [hxe] at hE
 by_cases hx0 : xo = 0
 ·rw [ZY hx0] at hE
  have W9 := Z9 hE; subst hx0; clear hE HE; have Ef := Z5 j0 (.cells #[.int .i64 0, .int .i64 0, .string ⟨#[]⟩, .slice none 0 0] 94); have Ee := Z5 j1 (.cells #[.int .i64 0, .int .i64 0, .string ⟨#[]⟩, .slice none 0 0] 94); have Ed := Z5 j2 (.cells #[.int .i64 0, .int .i64 0, .string ⟨#[]⟩, .slice none 0 0] 94); have Py := Z9 (Ym sb _ tv p.main fuel (tick s) o2 4 0 _ HB5.out.VL); go_wp2_with (first
   | (refine ZH rfl _ _ _ _ _ rfl _ (hsl2 _) ?_)
   | (go_at_call 63; refine Py.out.mono ?_; rintro e w2 ⟨rfl, hs2, hE2⟩; obtain ⟨n2, hP⟩ := Xq HB5.out hsb hs2 hE2 W9.out; have HP := Z9 hP; clear hP hs2 hE2)
   | (refine Zc rfl 94 _ _ rfl (V.heap.size + 2) Zf rfl rfl 94 Zf n2 YX rfl (ZO _ rfl) ?_))
  exact Y4 (YC rfl _ _ (V.heap.size + 2) 94 _ (0, 0) _ rfl (Zd _ _ _ _ _ _ n2) Tryz.underlying94 rfl YX) rfl HP.out
 ·rw [Z7 hx0] at hE
  have HE5 := Z9 hE; have hxb : (xo == 0) = false := Zt hx0; clear hE HE hxe; have R7 := Vt HASH.out hfr; have MK := HL.out.stack.kept HK5.out; have Ef := Z5 j0 (.cells #[.int .i64 0, .int .i64 0, .string ⟨#[]⟩, .slice none 0 0] 94); have Ee := Z5 j1 (.cells #[.int .i64 0, .int .i64 0, .string ⟨#[]⟩, .slice none 0 0] 94); have Ed := Z5 j2 (.cells #[.int .i64 0, .int .i64 0, .string ⟨#[]⟩, .slice none 0 0] 94); have N8 := (ZK HB5.out.VL.blk).2.2.2.2.1; have hst := (ZK HL.out.base.VL.blk).2.2.2.2.1; go_wp2_with (first
   | (refine ZH rfl _ _ _ _ _ rfl _ (hsl2 _) ?_)
   | (at_builtin; refine wpList_append_grows _ rfl _ _ 92 rfl 94 iV (.agg Zf) 4 56 Tryz.underlying92 WE UE UD UC rfl (by decide) a fr fr (ZR (stk.take fr)) rfl R7 ?aa7 ?aa8 _ 1 1 [.int .i64 xo, .int .i64 xn, .string xs, .slice xa xl.length xc] rfl rfl ?aa9 (KF _ _ _ _ _ _) (Nat.lt_succ_self _) ?aa' ?abb ?_))
  try case aa7 => rw [Zg, List.length_take]; omega
  try case aa8 => intro b hb j u hj; exact Wo (VR (HL.out.stack.kept (HK5.out.trans (ZG (Z8 _ _)))) fr hfr) hb hj
  try case aa9 => exact World.news_of_block (cs := #[.int .i64 xo, .int .i64 xn, .string xs, .slice xa xl.length xc]) (ZF (by simp) _)
  try case aa' => unfold maxLen; omega
  try case abb => omega
  intro v6 w6 hown6 Y6; have hj := Z9 (Vx HL.out HB5.out HK5.out hfr (fun b hb => Nat.lt_of_lt_of_le (Vn b hb) (by simp; omega)) HX5.out R8.out HE5.out HS5.out HT5.out HO5.out (by omega) (by omega) (Z8 _ _) (by simp) hown6 Y6); have R6 := (ZK hj.out.base.VL.blk).2.2.2.2.1; clear hown6 Y6; go_wp2_with fail; refine Handed.intro (mu _) ?_ (hJ _ _ _ ⟨rfl, rfl, rfl, (by rw [Xi]; exact ⟨_, _, _, _, _, _, rfl, hj⟩), rfl⟩); rw [<- hmu, U7]; simp only [R6, hst, Option.getD_some, intOf]; exact VI htop hsf HS5.out
end Go.Proofs.YtbcfdebdikgijaaGreatDoor
