/- Part of the proof; its texts: Ey8f. -/
import Derived.Test.YtbcfdebdikgijaaGreatDoorS38
set_option maxRecDepth 100000
set_option linter.unusedVariables false
set_option linter.unusedSimpArgs false
set_option maxHeartbeats 16000000
namespace Go.Proofs.YtbcfdebdikgijaaGreatDoor
open Go Go.RowKit
theorem jP : TQ 15 := by
 intro p hp fuel hfu G SC M w0 sb tv st ov V hw0 hM UF fs fl N7 an NZ al k fb Ue fc HB hsb ML MC Yj cc fla TN h7 P6 NY NW HP R L1 PG hkp mu U7 rel nn wr hmu J K K1 hJ hK stk lo s o2 m he hsf t at1 ib SE TP Sn R4 Xi hw2 ia ib2 q hat w3 hz3 hq1000 hlen a c HL hc HASH fr G7 hfr Xw hsl2 hdl Vn v4 w4 HB4 HK4 Wj HS2 N9 hz4 XA hfi Qy hq act hsz hdf hpre h15 h16
 obtain ⟨at0, htop, hpos, TD, hsmall⟩ := Ww HL.out
 obtain ⟨iV, WE, UE, UD, UC⟩ := YQ XV
 obtain ⟨j0, j1, j2⟩ := XM XA
 have HRR := Z9 (Yt Qy.out)
 have heq := HL.out.eq
 rw [Yl, Sn.out] at heq
 simp only at heq
 rw [Z7 (by simpa using he), Z7 (by omega), Z7 hsf, Int.toNat_natCast, hfi, hq, List.length_map, Z7 hlen, Xw, <- List.map_drop, <- List.map_take] at heq
 have W9 := Z9 heq
 clear heq XA
 have Pn : (s.steps == fuel) = false := Zt hsf
 revert hpre h15 h16
 refine WH act hsz hdf ?_
 clear hsz hdf act
 intro u0 u1 u2 u3 u4 u5 u6 u7 u8 u9 u10 u11 u12 u13 u14 u15 u16
 intros
 rename_i hpre h15 h16
 change [u0, u1, u2, u3, u4, u5, u6, u7, u8, u9, u10, u11] = _ at hpre
 cases hpre
 change u15 = _ at h15
 change u16 = _ at h16
 subst h15 h16
 simp only [XD, Ry, Qz, Xf, Tryz.f33, Option.getD_some]
 have hE := W9.out
 simp only [Int.reduceEq, if_false, if_true] at hE
 have HE := Z9 hE
 clear hE W9
 obtain ⟨va, vc, rfl, _⟩ := Wj.out
 have hmx : (stk.drop fr).length <= maxLen := by unfold maxLen; omega
 have KE : U8 (Mine M V.heap.size) w4 (.slice va q vc) (stk.drop fr).length (ZR (stk.drop fr)) := by rw [hdl]; exact Wj.out
 have hR := HRR.out.2.2.2.2.2.2.2.2 rfl
 simp only at hR
 have hm12 : (stk.drop fr).length = 1 \/ (stk.drop fr).length = 2 := by rw [hdl, <- hq]; exact pU _ _ hR
 have hpp : pushP p (ZW (.mk UF (k : Int) fs (.slice fla fl.length TN) fl)) (lo.map ZW) ((stk.drop fr).map ZW) ⟨15, ia, ib2⟩ (tick s) = Xk (tick s) (Yq ia ((stk.drop fr).map ZW)) := by unfold pushP; simp only [Int.reduceEq, if_false]
 rw [hpp] at HE
 clear hpp
 obtain ⟨hra, hrb, hrc⟩ := JF p (tick s) ia ((stk.drop fr).map ZW) HL.out.out
 have g5 := Z8 w4 (.cells #[.int .i64 0, .int .i64 0, .string ⟨#[]⟩, .slice none 0 0] 94)
 have HC : Hid (Calls Tryz.prog 65 #[.pointer (some ⟨sb, 0, none⟩), .int .i64 ia, .slice va q vc] (w4.alloc (.cells #[.int .i64 0, .int .i64 0, .string ⟨#[]⟩, .slice none 0 0] 94)) (MS (Boxed (Mine M V.heap.size) w4.heap.size) sb (.slice (some ⟨fb, Ue, none⟩) p.Zu.length fc) tv p.main fuel o2 (Xk (tick s) (Yq ia ((stk.drop fr).map ZW))) (w4.alloc (.cells #[.int .i64 0, .int .i64 0, .string ⟨#[]⟩, .slice none 0 0] 94)))) := Z9 (Ck (Boxed (Mine M V.heap.size) w4.heap.size) sb _ tv p.main fuel (tick s) o2 ia _ (stk.drop fr) _ (fun b hb => by have hsA : (w4.alloc (.cells #[.int .i64 0, .int .i64 0, .string ⟨#[]⟩, .slice none 0 0] 94)).heap.size = w4.heap.size + 1 := (by simp); rw [hsA]; rcases hb with hb | hb; (have := Vn b hb; omega); omega) (HB4.out.VL.free g5) he ((KE.mine Nr).kept (ZG g5)) hm12 hR.1 hR.2 HL.out.out)
 clear g5
 generalize Xk (tick s) (Yq ia ((stk.drop fr).map ZW)) = r at HC HE hra hrb hrc
 have hr1 := Z9 hra
 have HT5 : Hid (r.2.steps <= fuel) := Z9 (by rw [hrc]; exact Ve htop hsf)
 have HS5 : Hid (s.steps + 1 <= r.2.steps) := Z9 (by rw [hrc]; exact Int.le_refl _)
 have HO5 : Hid (r.2.out.length <= 1000) := Z9 hrb
 clear hra hrb hrc
 have hE := HE.out
 by_cases hr0 : r.1.op = 0
 ·rw [ZY hr0] at hE
  have W9 := Z9 hE; clear hE HE; have Ef := Z5 j0 (.cells #[.int .i64 0, .int .i64 0, .string ⟨#[]⟩, .slice none 0 0] 94); have Ee := Z5 j1 (.cells #[.int .i64 0, .int .i64 0, .string ⟨#[]⟩, .slice none 0 0] 94); have Ed := Z5 j2 (.cells #[.int .i64 0, .int .i64 0, .string ⟨#[]⟩, .slice none 0 0] 94); go_wp2_with (first
   | (refine ZH rfl _ _ _ _ _ rfl _ (hsl2 _) ?_)
   | (go_at_call 65; refine HC.out.mono ?_; rintro e w6 ⟨⟨xo, xn, xs, xv, xl⟩, o3, rfl, hx, hxv, hS6, hE6⟩; obtain ⟨xa, xc, rfl, _⟩ := hxv.parts.1; rw [ZE]; have R5 := Z9 (Rh HB4.out hsb (KW _) hx hxv hS6 hE6); have hxo : xo = r.1.op := (YF _).symm.trans (congrArg ZT.op hx); obtain ⟨n0, n1, n2, n3⟩ := YV R5.out.box; have f0 := Lib.frozen_of_heap R5.out.box 0; have f1 := Lib.frozen_of_heap R5.out.box 1; have f2 := Lib.frozen_of_heap R5.out.box 2; have f3 := Lib.frozen_of_heap R5.out.box 3; clear hx hxv hS6 hE6; rw [hr0] at hxo; subst hxo)
   | (go_at_call 63; refine (Ym sb _ tv p.main fuel r.2 o3 4 0 _ R5.out.base.VL).mono ?_; rintro e w2 ⟨rfl, hs2, hE2⟩; obtain ⟨n2, hP⟩ := Xq R5.out.base hsb hs2 hE2 W9.out; have HP := Z9 hP; clear hP hs2 hE2)
   | (refine Zc rfl 94 _ _ rfl (V.heap.size + 2) Zf rfl rfl 94 Zf n2 YX rfl (ZO _ rfl) ?_))
  exact Y4 (YC rfl _ _ (V.heap.size + 2) 94 _ (0, 0) _ rfl (Zd _ _ _ _ _ _ n2) Tryz.underlying94 rfl YX) rfl HP.out
 ·rw [Z7 hr0] at hE
  have HE := Z9 hE; clear hE; have R7 := Vt HASH.out hfr; have Ef := Z5 j0 (.cells #[.int .i64 0, .int .i64 0, .string ⟨#[]⟩, .slice none 0 0] 94); have Ee := Z5 j1 (.cells #[.int .i64 0, .int .i64 0, .string ⟨#[]⟩, .slice none 0 0] 94); have Ed := Z5 j2 (.cells #[.int .i64 0, .int .i64 0, .string ⟨#[]⟩, .slice none 0 0] 94); have hst := (ZK HL.out.base.VL.blk).2.2.2.2.1; go_wp2_with (first
   | (refine ZH rfl _ _ _ _ _ rfl _ (hsl2 _) ?_)
   | (go_at_call 65; refine HC.out.mono ?_; rintro e w6 ⟨⟨xo, xn, xs, xv, xl⟩, o3, rfl, hx, hxv, hS6, hE6⟩; obtain ⟨xa, xc, rfl, _⟩ := hxv.parts.1; rw [ZE]; have R5 := Z9 (Rh HB4.out hsb (KW _) hx hxv hS6 hE6); have hxo : xo = r.1.op := (YF _).symm.trans (congrArg ZT.op hx); obtain ⟨n0, n1, n2, n3⟩ := YV R5.out.box; have f0 := Lib.frozen_of_heap R5.out.box 0; have f1 := Lib.frozen_of_heap R5.out.box 1; have f2 := Lib.frozen_of_heap R5.out.box 2; have f3 := Lib.frozen_of_heap R5.out.box 3; clear hx hxv hS6 hE6; have hxb : (xo == 0) = false := Zt (by rw [hxo]; exact hr0); clear hxo; have HB5 := Z9 R5.out.base; have HK5 := Z9 (HK4.out.trans R5.out.keep); have HX5 := Z9 R5.out.isv; have R8 : Hid (Yx p (ZW (.mk xo xn xs (.slice xa xl.length xc) xl))) := Z9 (by rw [R5.out.strip]; exact hr1.out); have HE5 := Z9 HE.out; rw [<- R5.out.strip] at HE5)
   | (at_builtin; refine wpList_append_grows _ rfl _ _ 92 rfl 94 iV (.agg Zf) 4 56 Tryz.underlying92 WE UE UD UC rfl (by decide) a fr fr (ZR (stk.take fr)) rfl R7 ?dz ?dx _ 1 1 [.int .i64 xo, .int .i64 xn, .string xs, .slice xa xl.length xc] rfl rfl ?dw (KF _ _ _ _ _ _) (Nat.lt_succ_self _) ?dn ?dh ?_))
  try case dz => rw [Zg, List.length_take]; omega
  try case dx => intro b hb j u hj; exact Wo (VR (HL.out.stack.kept (HK5.out.trans (ZG (Z8 _ _)))) fr hfr) hb hj
  try case dw => exact World.news_of_block (cs := #[.int .i64 xo, .int .i64 xn, .string xs, .slice xa xl.length xc]) (ZF (by simp) _)
  try case dn => unfold maxLen; omega
  try case dh => omega
  intro v6 w6 hown6 Y6; have hj := Z9 (Vx HL.out HB5.out HK5.out hfr (fun b hb => Nat.lt_of_lt_of_le (Vn b hb) (Nat.le_trans hz4 R5.out.size)) HX5.out R8.out HE5.out HS5.out HT5.out HO5.out (by omega) (by omega) (Z8 _ _) (by simp) hown6 Y6); have R6 := (ZK hj.out.base.VL.blk).2.2.2.2.1; clear hown6 Y6; go_wp2_with fail; refine Handed.intro (mu _) ?_ (hJ _ _ _ ⟨rfl, rfl, rfl, (by rw [Xi]; exact ⟨_, _, _, _, _, _, rfl, hj⟩), rfl⟩); rw [<- hmu, U7]; simp only [R6, hst, Option.getD_some, intOf]; exact VI htop hsf HS5.out
end Go.Proofs.YtbcfdebdikgijaaGreatDoor
