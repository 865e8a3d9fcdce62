/- Part of the proof; its texts: Ey8b. -/
import Derived.Test.YtbcfdebdikgijaaGreatDoorS38
set_option maxRecDepth 100000
set_option linter.unusedVariables false
set_option linter.unusedSimpArgs false
set_option maxHeartbeats 16000000
namespace Go.Proofs.YtbcfdebdikgijaaGreatDoor
open Go Go.RowKit
theorem dN : TQ 6 := by
 intro p hp fuel hfu G SC M w0 sb tv st ov V hw0 hM UF fs fl N7 an NZ al k fb Ue fc HB hsb ML MC Yj cc fla TN h7 P6 NY NW HP R L1 PG hkp mu U7 rel nn wr hmu J K K1 hJ hK stk lo s o2 m he hsf t at1 ib SE TP Sn R4 Xi hw2 ia ib2 q hat w3 hz3 hq1000 hlen a c HL hc HASH fr G7 hfr Xw hsl2 hdl Vn v4 w4 HB4 HK4 Wj HS2 N9 hz4 XA hfi Qy hq act hsz hdf hpre h15 h16
 obtain ⟨at0, htop, hpos, TD, hsmall⟩ := Ww HL.out
 obtain ⟨iV, WE, UE, UD, UC⟩ := YQ XV
 obtain ⟨j0, j1, j2⟩ := XM XA
 have HRR := Z9 (Yt Qy.out)
 have heq := HL.out.eq
 rw [Yl, Sn.out] at heq
 simp only at heq
 rw [Z7 (by simpa using he), Z7 (by omega), Z7 hsf, Int.toNat_natCast, hfi, hq, List.length_map, Z7 hlen, Xw, <- List.map_drop, <- List.map_take] at heq
 have W9 := Z9 heq
 clear heq XA
 have Pn : (s.steps == fuel) = false := Zt hsf
 revert hpre h15 h16
 refine WH act hsz hdf ?_
 clear hsz hdf act
 intro u0 u1 u2 u3 u4 u5 u6 u7 u8 u9 u10 u11 u12 u13 u14 u15 u16
 intros
 rename_i hpre h15 h16
 change [u0, u1, u2, u3, u4, u5, u6, u7, u8, u9, u10, u11] = _ at hpre
 cases hpre
 change u15 = _ at h15
 change u16 = _ at h16
 subst h15 h16
 simp only [XD, Ry, Qz, Xf, Tryz.f33, Option.getD_some]
 have hE := W9.out
 simp only [Int.reduceEq, if_false, if_true] at hE
 have HE := Z9 hE
 clear hE W9
 obtain ⟨b0, b1, b2, b3⟩ := YV HB4.out.yR
 simp only [Z0.op, Z0.n, Z0.s, Z0.lv] at b0 b1 b2 b3
 have b0a := Z5 b0 (.cells #[.int .i64 0, .int .i64 0, .string ⟨#[]⟩, .slice none 0 0] 94)
 have b1a := Z5 b1 (.cells #[.int .i64 0, .int .i64 0, .string ⟨#[]⟩, .slice none 0 0] 94)
 have b2a := Z5 b2 (.cells #[.int .i64 0, .int .i64 0, .string ⟨#[]⟩, .slice none 0 0] 94)
 have b3a := Z5 b3 (.cells #[.int .i64 0, .int .i64 0, .string ⟨#[]⟩, .slice none 0 0] 94)
 have hf0 : (UF == 0) = false := by have h7f : UF = 7 := h7; rw [h7f]; rfl
 have hf1 : ¬ UF = 0 := by have h7f : UF = 7 := h7; omega
 have hpp : pushP p (ZW (.mk UF (k : Int) fs (.slice fla fl.length TN) fl)) (lo.map ZW) ((stk.drop fr).map ZW) ⟨6, ia, ib2⟩ (tick s) = (ZW (.mk UF (k : Int) fs (.slice fla fl.length TN) fl), tick s) := by unfold pushP; simp only [Int.reduceEq, if_false, if_true, Y2, XZ, List.map_nil]
 rw [hpp] at HE
 have hE := HE.out
 have hx0 : ¬ (ZW (.mk UF (k : Int) fs (.slice fla fl.length TN) fl)).op = 0 := by rw [YF]; show ¬ (UF : Int) = 0; have h7f : UF = 7 := h7; omega
 simp only [hx0, if_false] at hE
 have HE5 := Z9 hE
 clear hE HE hpp hx0
 have HB5 := Z9 (HB4.out.free (Z8 w4 (.cells #[.int .i64 UF, .int .i64 (k : Int), .string fs, .slice fla fl.length TN] 94)))
 have HK5 := Z9 (HK4.out.trans (ZG (Z8 w4 (.cells #[.int .i64 UF, .int .i64 (k : Int), .string fs, .slice fla fl.length TN] 94))))
 have hxw : R9 (Mine M V.heap.size) w4 (.mk UF (k : Int) fs (.slice fla fl.length TN) fl) := HB4.out.yS
 have HX5 := Z9 (hxw.kept (ZG (Z8 w4 (.cells #[.int .i64 UF, .int .i64 (k : Int), .string fs, .slice fla fl.length TN] 94))))
 have R8 : Hid (Yx p (ZW (.mk UF (k : Int) fs (.slice fla fl.length TN) fl))) := Z9 (P6.out)
 clear hxw
 have HT5 : Hid ((tick s).steps <= fuel) := Z9 (Ve htop hsf)
 have HS5 : Hid (s.steps + 1 <= (tick s).steps) := Z9 (Int.le_refl _)
 have HO5 : Hid ((tick s).out.length <= 1000) := Z9 HL.out.out
 have R7 := Vt HASH.out hfr
 have MK := HL.out.stack.kept HK5.out
 have Ef := Z5 j0 (.cells #[.int .i64 0, .int .i64 0, .string ⟨#[]⟩, .slice none 0 0] 94)
 have Ee := Z5 j1 (.cells #[.int .i64 0, .int .i64 0, .string ⟨#[]⟩, .slice none 0 0] 94)
 have Ed := Z5 j2 (.cells #[.int .i64 0, .int .i64 0, .string ⟨#[]⟩, .slice none 0 0] 94)
 have N8 := (ZK HB5.out.VL.blk).2.2.2.2.1
 have hst := (ZK HL.out.base.VL.blk).2.2.2.2.1
 go_wp2_with (first
  | (refine ZH rfl _ _ _ _ _ rfl _ (hsl2 _) ?_)
  | (at_builtin; refine wpList_append_grows _ rfl _ _ 92 rfl 94 iV (.agg Zf) 4 56 Tryz.underlying92 WE UE UD UC rfl (by decide) a fr fr (ZR (stk.take fr)) rfl R7 ?abd ?abe _ 1 1 [.int .i64 UF, .int .i64 (k : Int), .string fs, .slice fla fl.length TN] rfl rfl ?abf (KF _ _ _ _ _ _) (Nat.lt_succ_self _) ?abg ?abh ?_))
 try case abd => rw [Zg, List.length_take]; omega
 try case abe => intro b hb j u hj; exact Wo (VR (HL.out.stack.kept (HK5.out.trans (ZG (Z8 _ _)))) fr hfr) hb hj
 try case abf => exact World.news_of_block (cs := #[.int .i64 UF, .int .i64 (k : Int), .string fs, .slice fla fl.length TN]) (ZF (by simp) _)
 try case abg => unfold maxLen; omega
 try case abh => omega
 intro v6 w6 hown6 Y6
 have hj := Z9 (Vx HL.out HB5.out HK5.out hfr (fun b hb => Nat.lt_of_lt_of_le (Vn b hb) (by simp; omega)) HX5.out R8.out HE5.out HS5.out HT5.out HO5.out (by omega) (by omega) (Z8 _ _) (by simp) hown6 Y6)
 have R6 := (ZK hj.out.base.VL.blk).2.2.2.2.1
 clear hown6 Y6
 go_wp2_with fail
 refine Handed.intro (mu _) ?_ (hJ _ _ _ ⟨rfl, rfl, rfl, (by rw [Xi]; exact ⟨_, _, _, _, _, _, rfl, hj⟩), rfl⟩)
 rw [<- hmu, U7]
 simp only [R6, hst, Option.getD_some, intOf]
 exact VI htop hsf HS5.out
theorem dM : TQ 7 := by
 intro p hp fuel hfu G SC M w0 sb tv st ov V hw0 hM UF fs fl N7 an NZ al k fb Ue fc HB hsb ML MC Yj cc fla TN h7 P6 NY NW HP R L1 PG hkp mu U7 rel nn wr hmu J K K1 hJ hK stk lo s o2 m he hsf t at1 ib SE TP Sn R4 Xi hw2 ia ib2 q hat w3 hz3 hq1000 hlen a c HL hc HASH fr G7 hfr Xw hsl2 hdl Vn v4 w4 HB4 HK4 Wj HS2 N9 hz4 XA hfi Qy hq act hsz hdf hpre h15 h16
 obtain ⟨at0, htop, hpos, TD, hsmall⟩ := Ww HL.out
 obtain ⟨iV, WE, UE, UD, UC⟩ := YQ XV
 obtain ⟨j0, j1, j2⟩ := XM XA
 have HRR := Z9 (Yt Qy.out)
 have heq := HL.out.eq
 rw [Yl, Sn.out] at heq
 simp only at heq
 rw [Z7 (by simpa using he), Z7 (by omega), Z7 hsf, Int.toNat_natCast, hfi, hq, List.length_map, Z7 hlen, Xw, <- List.map_drop, <- List.map_take] at heq
 have W9 := Z9 heq
 clear heq XA
 have Pn : (s.steps == fuel) = false := Zt hsf
 revert hpre h15 h16
 refine WH act hsz hdf ?_
 clear hsz hdf act
 intro u0 u1 u2 u3 u4 u5 u6 u7 u8 u9 u10 u11 u12 u13 u14 u15 u16
 intros
 rename_i hpre h15 h16
 change [u0, u1, u2, u3, u4, u5, u6, u7, u8, u9, u10, u11] = _ at hpre
 cases hpre
 change u15 = _ at h15
 change u16 = _ at h16
 subst h15 h16
 simp only [XD, Ry, Qz, Xf, Tryz.f33, Option.getD_some]
 have hE := W9.out
 simp only [Int.reduceEq, if_false, if_true] at hE
 have HE := Z9 hE
 clear hE W9
 obtain ⟨va, vc, rfl, _⟩ := Wj.out
 have hmx : (stk.drop fr).length <= maxLen := by unfold maxLen; omega
 have KE : U8 (Mine M V.heap.size) w4 (.slice va q vc) (stk.drop fr).length (ZR (stk.drop fr)) := by rw [hdl]; exact Wj.out
 have hpp : pushP p (ZW (.mk UF (k : Int) fs (.slice fla fl.length TN) fl)) (lo.map ZW) ((stk.drop fr).map ZW) ⟨7, ia, ib2⟩ (tick s) = (ZW (.mk 7 ia ⟨#[]⟩ (.slice va q vc) (stk.drop fr)), tick s) := by unfold pushP; simp only [Int.reduceEq, if_false, if_true, Y2, XZ, List.map_nil]
 rw [hpp] at HE
 have hE := HE.out
 have hx0 : ¬ (ZW (.mk 7 ia ⟨#[]⟩ (.slice va q vc) (stk.drop fr))).op = 0 := by rw [YF]; show ¬ (7 : Int) = 0; decide
 simp only [hx0, if_false] at hE
 have HE5 := Z9 hE
 clear hE HE hpp hx0
 have HB5 := Z9 (HB4.out.free (Z8 w4 (.cells #[.int .i64 7, .int .i64 ia, .string ⟨#[]⟩, .slice va q vc] 94)))
 have HK5 := Z9 (HK4.out.trans (ZG (Z8 w4 (.cells #[.int .i64 7, .int .i64 ia, .string ⟨#[]⟩, .slice va q vc] 94))))
 have hxw : R9 (Mine M V.heap.size) w4 (.mk 7 ia ⟨#[]⟩ (.slice va q vc) (stk.drop fr)) := .mk KE hmx (fun y hy => N9.out y (List.mem_of_mem_drop hy))
 have HX5 := Z9 (hxw.kept (ZG (Z8 w4 (.cells #[.int .i64 7, .int .i64 ia, .string ⟨#[]⟩, .slice va q vc] 94))))
 have R8 : Hid (Yx p (ZW (.mk 7 ia ⟨#[]⟩ (.slice va q vc) (stk.drop fr)))) := Z9 (by rw [Y2]; exact .mk (fun _ => by have h7 := HRR.out.2.2.2.1 rfl; simp only at h7; refine ⟨h7.1.1, by omega, ?_⟩; rw [XZ, List.length_map, hdl, <- hq, <- h7.2]; have hc7 := ((Ol _).1 (hp.head ia.toNat (by omega))).1; rw [ug _ _ (by rw [h7.2]; exact hc7)]; omega) (fun h => by cases h) (fun y hy => by rw [XZ] at hy; obtain ⟨z, hz, rfl⟩ := List.mem_map.1 hy; exact HL.out.QH z (List.mem_of_mem_drop hz)))
 clear hxw
 have HT5 : Hid ((tick s).steps <= fuel) := Z9 (Ve htop hsf)
 have HS5 : Hid (s.steps + 1 <= (tick s).steps) := Z9 (Int.le_refl _)
 have HO5 : Hid ((tick s).out.length <= 1000) := Z9 HL.out.out
 have R7 := Vt HASH.out hfr
 have MK := HL.out.stack.kept HK5.out
 have Ef := Z5 j0 (.cells #[.int .i64 0, .int .i64 0, .string ⟨#[]⟩, .slice none 0 0] 94)
 have Ee := Z5 j1 (.cells #[.int .i64 0, .int .i64 0, .string ⟨#[]⟩, .slice none 0 0] 94)
 have Ed := Z5 j2 (.cells #[.int .i64 0, .int .i64 0, .string ⟨#[]⟩, .slice none 0 0] 94)
 have N8 := (ZK HB5.out.VL.blk).2.2.2.2.1
 have hst := (ZK HL.out.base.VL.blk).2.2.2.2.1
 go_wp2_with (first
  | (refine ZH rfl _ _ _ _ _ rfl _ (hsl2 _) ?_)
  | (at_builtin; refine wpList_append_grows _ rfl _ _ 92 rfl 94 iV (.agg Zf) 4 56 Tryz.underlying92 WE UE UD UC rfl (by decide) a fr fr (ZR (stk.take fr)) rfl R7 ?abj ?abk _ 1 1 [.int .i64 7, .int .i64 ia, .string ⟨#[]⟩, .slice va q vc] rfl rfl ?abl (KF _ _ _ _ _ _) (Nat.lt_succ_self _) ?abm ?abn ?_))
 try case abj => rw [Zg, List.length_take]; omega
 try case abk => intro b hb j u hj; exact Wo (VR (HL.out.stack.kept (HK5.out.trans (ZG (Z8 _ _)))) fr hfr) hb hj
 try case abl => exact World.news_of_block (cs := #[.int .i64 7, .int .i64 ia, .string ⟨#[]⟩, .slice va q vc]) (ZF (by simp) _)
 try case abm => unfold maxLen; omega
 try case abn => omega
 intro v6 w6 hown6 Y6
 have hj := Z9 (Vx HL.out HB5.out HK5.out hfr (fun b hb => Nat.lt_of_lt_of_le (Vn b hb) (by simp; omega)) HX5.out R8.out HE5.out HS5.out HT5.out HO5.out (by omega) (by omega) (Z8 _ _) (by simp) hown6 Y6)
 have R6 := (ZK hj.out.base.VL.blk).2.2.2.2.1
 clear hown6 Y6
 go_wp2_with fail
 refine Handed.intro (mu _) ?_ (hJ _ _ _ ⟨rfl, rfl, rfl, (by rw [Xi]; exact ⟨_, _, _, _, _, _, rfl, hj⟩), rfl⟩)
 rw [<- hmu, U7]
 simp only [R6, hst, Option.getD_some, intOf]
 exact VI htop hsf HS5.out
theorem dL : TQ 9 := by
 intro p hp fuel hfu G SC M w0 sb tv st ov V hw0 hM UF fs fl N7 an NZ al k fb Ue fc HB hsb ML MC Yj cc fla TN h7 P6 NY NW HP R L1 PG hkp mu U7 rel nn wr hmu J K K1 hJ hK stk lo s o2 m he hsf t at1 ib SE TP Sn R4 Xi hw2 ia ib2 q hat w3 hz3 hq1000 hlen a c HL hc HASH fr G7 hfr Xw hsl2 hdl Vn v4 w4 HB4 HK4 Wj HS2 N9 hz4 XA hfi Qy hq act hsz hdf hpre h15 h16
 obtain ⟨at0, htop, hpos, TD, hsmall⟩ := Ww HL.out
 obtain ⟨iV, WE, UE, UD, UC⟩ := YQ XV
 obtain ⟨j0, j1, j2⟩ := XM XA
 have HRR := Z9 (Yt Qy.out)
 have heq := HL.out.eq
 rw [Yl, Sn.out] at heq
 simp only at heq
 rw [Z7 (by simpa using he), Z7 (by omega), Z7 hsf, Int.toNat_natCast, hfi, hq, List.length_map, Z7 hlen, Xw, <- List.map_drop, <- List.map_take] at heq
 have W9 := Z9 heq
 clear heq XA
 have Pn : (s.steps == fuel) = false := Zt hsf
 revert hpre h15 h16
 refine WH act hsz hdf ?_
 clear hsz hdf act
 intro u0 u1 u2 u3 u4 u5 u6 u7 u8 u9 u10 u11 u12 u13 u14 u15 u16
 intros
 rename_i hpre h15 h16
 change [u0, u1, u2, u3, u4, u5, u6, u7, u8, u9, u10, u11] = _ at hpre
 cases hpre
 change u15 = _ at h15
 change u16 = _ at h16
 subst h15 h16
 simp only [XD, Ry, Qz, Xf, Tryz.f33, Option.getD_some]
 have hE := W9.out
 simp only [Int.reduceEq, if_false, if_true] at hE
 have HE := Z9 hE
 clear hE W9
 obtain rfl : q = 1 := hq.symm.trans rfl
 obtain ⟨x, hx⟩ : ∃ x, stk.drop fr = [x] := List.length_eq_one_iff.1 hdl
 rw [hx] at Wj HE
 have hxm : x ∈ stk := List.mem_of_mem_drop (by rw [hx]; exact List.mem_singleton_self x)
 have HX := Z9 (N9.out x hxm)
 have jW := Z9 (HL.out.QH x hxm)
 obtain ⟨g4, UZ, c4, rfl, hc4, hm4, hg4, x0, x1, x2, x3⟩ := Vp (l := [x]) Wj.out 0 (by simp)
 obtain ⟨xo, xn, xs, xv, xl⟩ := x
 obtain ⟨xa, xc, rfl, _⟩ := HX.out.parts.1
 simp only [Nat.zero_mul, Nat.add_zero, List.getD, List.getElem?_cons_zero, Option.getD_some, Z0.op, Z0.n, Z0.s, Z0.lv, List.length_singleton] at x0 x1 x2 x3 hc4
 simp only [List.map_cons, List.map_nil, List.headD_cons] at HE
 have n2 := HB4.out.RI
 have iA := Z9 (EN HB4.out hsb HX.out HE.out #[.int .i64 xo, .int .i64 xn, .string xs, .slice xa xl.length xc])
 go_wp2_with (first
  | (refine ZH rfl _ _ _ _ _ rfl _ (hsl2 _) ?_)
  | (refine Zc rfl 94 _ _ rfl (V.heap.size + 2) #[.int .i64 xo, .int .i64 xn, .string xs, .slice xa xl.length xc] rfl rfl 94 Zf n2 YX rfl (ZO _ rfl) ?_))
 exact Y4 (YC rfl _ _ (V.heap.size + 2) 94 _ (0, 0) _ rfl (Zd _ _ _ _ _ _ n2) Tryz.underlying94 rfl YX) rfl iA.out
theorem jV : TQ 10 := by
 intro p hp fuel hfu G SC M w0 sb tv st ov V hw0 hM UF fs fl N7 an NZ al k fb Ue fc HB hsb ML MC Yj cc fla TN h7 P6 NY NW HP R L1 PG hkp mu U7 rel nn wr hmu J K K1 hJ hK stk lo s o2 m he hsf t at1 ib SE TP Sn R4 Xi hw2 ia ib2 q hat w3 hz3 hq1000 hlen a c HL hc HASH fr G7 hfr Xw hsl2 hdl Vn v4 w4 HB4 HK4 Wj HS2 N9 hz4 XA hfi Qy hq act hsz hdf hpre h15 h16
 obtain ⟨at0, htop, hpos, TD, hsmall⟩ := Ww HL.out
 obtain ⟨iV, WE, UE, UD, UC⟩ := YQ XV
 obtain ⟨j0, j1, j2⟩ := XM XA
 have HRR := Z9 (Yt Qy.out)
 have heq := HL.out.eq
 rw [Yl, Sn.out] at heq
 simp only at heq
 rw [Z7 (by simpa using he), Z7 (by omega), Z7 hsf, Int.toNat_natCast, hfi, hq, List.length_map, Z7 hlen, Xw, <- List.map_drop, <- List.map_take] at heq
 have W9 := Z9 heq
 clear heq XA
 have Pn : (s.steps == fuel) = false := Zt hsf
 revert hpre h15 h16
 refine WH act hsz hdf ?_
 clear hsz hdf act
 intro u0 u1 u2 u3 u4 u5 u6 u7 u8 u9 u10 u11 u12 u13 u14 u15 u16
 intros
 rename_i hpre h15 h16
 change [u0, u1, u2, u3, u4, u5, u6, u7, u8, u9, u10, u11] = _ at hpre
 cases hpre
 change u15 = _ at h15
 change u16 = _ at h16
 subst h15 h16
 simp only [XD, Ry, Qz, Xf, Tryz.f33, Option.getD_some]
 have hE := W9.out
 simp only [Int.reduceEq, if_false, if_true] at hE
 have HE := Z9 hE
 clear hE W9
 obtain ⟨va, vc, rfl, _⟩ := Wj.out
 have hmx : (stk.drop fr).length <= maxLen := by unfold maxLen; omega
 have KE : U8 (Mine M V.heap.size) w4 (.slice va q vc) (stk.drop fr).length (ZR (stk.drop fr)) := by rw [hdl]; exact Wj.out
 have hpp : pushP p (ZW (.mk UF (k : Int) fs (.slice fla fl.length TN) fl)) (lo.map ZW) ((stk.drop fr).map ZW) ⟨10, ia, ib2⟩ (tick s) = (ZW (.mk 3 0 ⟨#[]⟩ (.slice va q vc) (stk.drop fr)), tick s) := by unfold pushP; simp only [Int.reduceEq, if_false, if_true, Y2, XZ, List.map_nil]
 rw [hpp] at HE
 have hE := HE.out
 have hx0 : ¬ (ZW (.mk 3 0 ⟨#[]⟩ (.slice va q vc) (stk.drop fr))).op = 0 := by rw [YF]; show ¬ (3 : Int) = 0; decide
 simp only [hx0, if_false] at hE
 have HE5 := Z9 hE
 clear hE HE hpp hx0
 have HB5 := Z9 (HB4.out.free (Z8 w4 (.cells #[.int .i64 3, .int .i64 0, .string ⟨#[]⟩, .slice va q vc] 94)))
 have HK5 := Z9 (HK4.out.trans (ZG (Z8 w4 (.cells #[.int .i64 3, .int .i64 0, .string ⟨#[]⟩, .slice va q vc] 94))))
 have hxw : R9 (Mine M V.heap.size) w4 (.mk 3 0 ⟨#[]⟩ (.slice va q vc) (stk.drop fr)) := .mk KE hmx (fun y hy => N9.out y (List.mem_of_mem_drop hy))
 have HX5 := Z9 (hxw.kept (ZG (Z8 w4 (.cells #[.int .i64 3, .int .i64 0, .string ⟨#[]⟩, .slice va q vc] 94))))
 have R8 : Hid (Yx p (ZW (.mk 3 0 ⟨#[]⟩ (.slice va q vc) (stk.drop fr)))) := Z9 (by rw [Y2]; exact .mk (fun h => by cases h) (fun h => by cases h) (fun y hy => by rw [XZ] at hy; obtain ⟨z, hz, rfl⟩ := List.mem_map.1 hy; exact HL.out.QH z (List.mem_of_mem_drop hz)))
 clear hxw
 have HT5 : Hid ((tick s).steps <= fuel) := Z9 (Ve htop hsf)
 have HS5 : Hid (s.steps + 1 <= (tick s).steps) := Z9 (Int.le_refl _)
 have HO5 : Hid ((tick s).out.length <= 1000) := Z9 HL.out.out
 have R7 := Vt HASH.out hfr
 have MK := HL.out.stack.kept HK5.out
 have Ef := Z5 j0 (.cells #[.int .i64 0, .int .i64 0, .string ⟨#[]⟩, .slice none 0 0] 94)
 have Ee := Z5 j1 (.cells #[.int .i64 0, .int .i64 0, .string ⟨#[]⟩, .slice none 0 0] 94)
 have Ed := Z5 j2 (.cells #[.int .i64 0, .int .i64 0, .string ⟨#[]⟩, .slice none 0 0] 94)
 have N8 := (ZK HB5.out.VL.blk).2.2.2.2.1
 have hst := (ZK HL.out.base.VL.blk).2.2.2.2.1
 go_wp2_with (first
  | (refine ZH rfl _ _ _ _ _ rfl _ (hsl2 _) ?_)
  | (at_builtin; refine wpList_append_grows _ rfl _ _ 92 rfl 94 iV (.agg Zf) 4 56 Tryz.underlying92 WE UE UD UC rfl (by decide) a fr fr (ZR (stk.take fr)) rfl R7 ?abo ?abp _ 1 1 [.int .i64 3, .int .i64 0, .string ⟨#[]⟩, .slice va q vc] rfl rfl ?abq (KF _ _ _ _ _ _) (Nat.lt_succ_self _) ?abr ?abt ?_))
 try case abo => rw [Zg, List.length_take]; omega
 try case abp => intro b hb j u hj; exact Wo (VR (HL.out.stack.kept (HK5.out.trans (ZG (Z8 _ _)))) fr hfr) hb hj
 try case abq => exact World.news_of_block (cs := #[.int .i64 3, .int .i64 0, .string ⟨#[]⟩, .slice va q vc]) (ZF (by simp) _)
 try case abr => unfold maxLen; omega
 try case abt => omega
 intro v6 w6 hown6 Y6
 have hj := Z9 (Vx HL.out HB5.out HK5.out hfr (fun b hb => Nat.lt_of_lt_of_le (Vn b hb) (by simp; omega)) HX5.out R8.out HE5.out HS5.out HT5.out HO5.out (by omega) (by omega) (Z8 _ _) (by simp) hown6 Y6)
 have R6 := (ZK hj.out.base.VL.blk).2.2.2.2.1
 clear hown6 Y6
 go_wp2_with fail
 refine Handed.intro (mu _) ?_ (hJ _ _ _ ⟨rfl, rfl, rfl, (by rw [Xi]; exact ⟨_, _, _, _, _, _, rfl, hj⟩), rfl⟩)
 rw [<- hmu, U7]
 simp only [R6, hst, Option.getD_some, intOf]
 exact VI htop hsf HS5.out
theorem jU : TQ 12 := by
 intro p hp fuel hfu G SC M w0 sb tv st ov V hw0 hM UF fs fl N7 an NZ al k fb Ue fc HB hsb ML MC Yj cc fla TN h7 P6 NY NW HP R L1 PG hkp mu U7 rel nn wr hmu J K K1 hJ hK stk lo s o2 m he hsf t at1 ib SE TP Sn R4 Xi hw2 ia ib2 q hat w3 hz3 hq1000 hlen a c HL hc HASH fr G7 hfr Xw hsl2 hdl Vn v4 w4 HB4 HK4 Wj HS2 N9 hz4 XA hfi Qy hq act hsz hdf hpre h15 h16
 obtain ⟨at0, htop, hpos, TD, hsmall⟩ := Ww HL.out
 obtain ⟨iV, WE, UE, UD, UC⟩ := YQ XV
 obtain ⟨j0, j1, j2⟩ := XM XA
 have HRR := Z9 (Yt Qy.out)
 have heq := HL.out.eq
 rw [Yl, Sn.out] at heq
 simp only at heq
 rw [Z7 (by simpa using he), Z7 (by omega), Z7 hsf, Int.toNat_natCast, hfi, hq, List.length_map, Z7 hlen, Xw, <- List.map_drop, <- List.map_take] at heq
 have W9 := Z9 heq
 clear heq XA
 have Pn : (s.steps == fuel) = false := Zt hsf
 revert hpre h15 h16
 refine WH act hsz hdf ?_
 clear hsz hdf act
 intro u0 u1 u2 u3 u4 u5 u6 u7 u8 u9 u10 u11 u12 u13 u14 u15 u16
 intros
 rename_i hpre h15 h16
 change [u0, u1, u2, u3, u4, u5, u6, u7, u8, u9, u10, u11] = _ at hpre
 cases hpre
 change u15 = _ at h15
 change u16 = _ at h16
 subst h15 h16
 simp only [XD, Ry, Qz, Xf, Tryz.f33, Option.getD_some]
 have hE := W9.out
 simp only [Int.reduceEq, if_false, if_true] at hE
 have HE := Z9 hE
 clear hE W9
 obtain ⟨va, vc, rfl, _⟩ := Wj.out
 have hmx : (stk.drop fr).length <= maxLen := by unfold maxLen; omega
 have KE : U8 (Mine M V.heap.size) w4 (.slice va q vc) (stk.drop fr).length (ZR (stk.drop fr)) := by rw [hdl]; exact Wj.out
 have hpp : pushP p (ZW (.mk UF (k : Int) fs (.slice fla fl.length TN) fl)) (lo.map ZW) ((stk.drop fr).map ZW) ⟨12, ia, ib2⟩ (tick s) = (ZW (.mk 4 ia ⟨#[]⟩ (.slice va q vc) (stk.drop fr)), tick s) := by unfold pushP; simp only [Int.reduceEq, if_false, if_true, Y2, XZ, List.map_nil]
 rw [hpp] at HE
 have hE := HE.out
 have hx0 : ¬ (ZW (.mk 4 ia ⟨#[]⟩ (.slice va q vc) (stk.drop fr))).op = 0 := by rw [YF]; show ¬ (4 : Int) = 0; decide
 simp only [hx0, if_false] at hE
 have HE5 := Z9 hE
 clear hE HE hpp hx0
 have HB5 := Z9 (HB4.out.free (Z8 w4 (.cells #[.int .i64 4, .int .i64 ia, .string ⟨#[]⟩, .slice va q vc] 94)))
 have HK5 := Z9 (HK4.out.trans (ZG (Z8 w4 (.cells #[.int .i64 4, .int .i64 ia, .string ⟨#[]⟩, .slice va q vc] 94))))
 have hxw : R9 (Mine M V.heap.size) w4 (.mk 4 ia ⟨#[]⟩ (.slice va q vc) (stk.drop fr)) := .mk KE hmx (fun y hy => N9.out y (List.mem_of_mem_drop hy))
 have HX5 := Z9 (hxw.kept (ZG (Z8 w4 (.cells #[.int .i64 4, .int .i64 ia, .string ⟨#[]⟩, .slice va q vc] 94))))
 have R8 : Hid (Yx p (ZW (.mk 4 ia ⟨#[]⟩ (.slice va q vc) (stk.drop fr)))) := Z9 (by rw [Y2]; exact .mk (fun h => by cases h) (fun _ => by have h12 := HRR.out.2.2.2.2.2.1 (.inr rfl); simp only at h12; refine ⟨?_, h12.1, by omega⟩; rw [XZ, List.length_map, hdl, <- hq, Ar rfl]; exact Nat.le_refl _) (fun y hy => by rw [XZ] at hy; obtain ⟨z, hz, rfl⟩ := List.mem_map.1 hy; exact HL.out.QH z (List.mem_of_mem_drop hz)))
 clear hxw
 have HT5 : Hid ((tick s).steps <= fuel) := Z9 (Ve htop hsf)
 have HS5 : Hid (s.steps + 1 <= (tick s).steps) := Z9 (Int.le_refl _)
 have HO5 : Hid ((tick s).out.length <= 1000) := Z9 HL.out.out
 have R7 := Vt HASH.out hfr
 have MK := HL.out.stack.kept HK5.out
 have Ef := Z5 j0 (.cells #[.int .i64 0, .int .i64 0, .string ⟨#[]⟩, .slice none 0 0] 94)
 have Ee := Z5 j1 (.cells #[.int .i64 0, .int .i64 0, .string ⟨#[]⟩, .slice none 0 0] 94)
 have Ed := Z5 j2 (.cells #[.int .i64 0, .int .i64 0, .string ⟨#[]⟩, .slice none 0 0] 94)
 have N8 := (ZK HB5.out.VL.blk).2.2.2.2.1
 have hst := (ZK HL.out.base.VL.blk).2.2.2.2.1
 go_wp2_with (first
  | (refine ZH rfl _ _ _ _ _ rfl _ (hsl2 _) ?_)
  | (at_builtin; refine wpList_append_grows _ rfl _ _ 92 rfl 94 iV (.agg Zf) 4 56 Tryz.underlying92 WE UE UD UC rfl (by decide) a fr fr (ZR (stk.take fr)) rfl R7 ?abu ?abv _ 1 1 [.int .i64 4, .int .i64 ia, .string ⟨#[]⟩, .slice va q vc] rfl rfl ?abw (KF _ _ _ _ _ _) (Nat.lt_succ_self _) ?abx ?aby ?_))
 try case abu => rw [Zg, List.length_take]; omega
 try case abv => intro b hb j u hj; exact Wo (VR (HL.out.stack.kept (HK5.out.trans (ZG (Z8 _ _)))) fr hfr) hb hj
 try case abw => exact World.news_of_block (cs := #[.int .i64 4, .int .i64 ia, .string ⟨#[]⟩, .slice va q vc]) (ZF (by simp) _)
 try case abx => unfold maxLen; omega
 try case aby => omega
 intro v6 w6 hown6 Y6
 have hj := Z9 (Vx HL.out HB5.out HK5.out hfr (fun b hb => Nat.lt_of_lt_of_le (Vn b hb) (by simp; omega)) HX5.out R8.out HE5.out HS5.out HT5.out HO5.out (by omega) (by omega) (Z8 _ _) (by simp) hown6 Y6)
 have R6 := (ZK hj.out.base.VL.blk).2.2.2.2.1
 clear hown6 Y6
 go_wp2_with fail
 refine Handed.intro (mu _) ?_ (hJ _ _ _ ⟨rfl, rfl, rfl, (by rw [Xi]; exact ⟨_, _, _, _, _, _, rfl, hj⟩), rfl⟩)
 rw [<- hmu, U7]
 simp only [R6, hst, Option.getD_some, intOf]
 exact VI htop hsf HS5.out
end Go.Proofs.YtbcfdebdikgijaaGreatDoor
