/- Part of the proof; its texts: Ey8d. -/
import Derived.Test.YtbcfdebdikgijaaGreatDoorS38
set_option maxRecDepth 100000
set_option linter.unusedVariables false
set_option linter.unusedSimpArgs false
set_option maxHeartbeats 16000000
namespace Go.Proofs.YtbcfdebdikgijaaGreatDoor
open Go Go.RowKit
theorem dI : TQ 8 := by
 intro p hp fuel hfu G SC M w0 sb tv st ov V hw0 hM UF fs fl N7 an NZ al k fb Ue fc HB hsb ML MC Yj cc fla TN h7 P6 NY NW HP R L1 PG hkp mu U7 rel nn wr hmu J K K1 hJ hK stk lo s o2 m he hsf t at1 ib SE TP Sn R4 Xi hw2 ia ib2 q hat w3 hz3 hq1000 hlen a c HL hc HASH fr G7 hfr Xw hsl2 hdl Vn v4 w4 HB4 HK4 Wj HS2 N9 hz4 XA hfi Qy hq act hsz hdf hpre h15 h16
 obtain ⟨at0, htop, hpos, TD, hsmall⟩ := Ww HL.out
 obtain ⟨iV, WE, UE, UD, UC⟩ := YQ XV
 obtain ⟨j0, j1, j2⟩ := XM XA
 have HRR := Z9 (Yt Qy.out)
 have heq := HL.out.eq
 rw [Yl, Sn.out] at heq
 simp only at heq
 rw [Z7 (by simpa using he), Z7 (by omega), Z7 hsf, Int.toNat_natCast, hfi, hq, List.length_map, Z7 hlen, Xw, <- List.map_drop, <- List.map_take] at heq
 have W9 := Z9 heq
 clear heq XA
 have Pn : (s.steps == fuel) = false := Zt hsf
 revert hpre h15 h16
 refine WH act hsz hdf ?_
 clear hsz hdf act
 intro u0 u1 u2 u3 u4 u5 u6 u7 u8 u9 u10 u11 u12 u13 u14 u15 u16
 intros
 rename_i hpre h15 h16
 change [u0, u1, u2, u3, u4, u5, u6, u7, u8, u9, u10, u11] = _ at hpre
 cases hpre
 change u15 = _ at h15
 change u16 = _ at h16
 subst h15 h16
 simp only [XD, Ry, Qz, Xf, Tryz.f33, Option.getD_some]
 have hE := W9.out
 simp only [Int.reduceEq, if_false, if_true] at hE
 have HE := Z9 hE
 clear hE W9
 obtain rfl : q = 2 := hq.symm.trans (kQ _ _)
 obtain ⟨f2, a2, hx⟩ : ∃ f2 a2, stk.drop fr = [f2, a2] := tT hdl
 have hfm : f2 ∈ stk := List.mem_of_mem_drop (by rw [hx]; simp)
 have jJ : a2 ∈ stk := List.mem_of_mem_drop (by rw [hx]; simp)
 rw [hx] at Wj HE
 have HF2 := Z9 (N9.out f2 hfm)
 have uL := Z9 (HL.out.QH f2 hfm)
 have HA2 := Z9 (N9.out a2 jJ)
 have dH := Z9 (HL.out.QH a2 jJ)
 obtain ⟨g4, UZ, c4, rfl, hc4, hk4, h8⟩ := tQ Wj.out
 have HK8 := Z9 hk4
 clear hk4
 obtain ⟨f2o, xQ, xP, f2v, KD⟩ := f2
 obtain ⟨xO, xM, rfl, _⟩ := HF2.out.parts.1
 obtain ⟨nu, nk, ni, a2v, xL⟩ := a2
 obtain ⟨ng, mZ, rfl, _⟩ := HA2.out.parts.1
 simp only [Z0.op, Z0.n, Z0.s, Z0.lv] at h8
 simp only [List.map_cons, List.map_nil, List.headD_cons, List.getD_cons_succ, List.getD_cons_zero] at HE
 by_cases h7c : f2o = 7
 ·subst h7c
  have xK : (ZW (.mk 7 xQ xP (.slice xO KD.length xM) KD)).op = 7 := YF _; rw [ZY xK] at HE; have xJ := Il hp fuel m (ZW (.mk 7 xQ xP (.slice xO KD.length xM) KD)) (X8 p (ZW (.mk 7 xQ xP (.slice xO KD.length xM) KD)) (ZW (.mk nu nk ni (.slice ng xL.length mZ) xL))) [] 0 (tick s) uL.out xK (Px _ dH.out) (fun _ h => by cases h) HL.out.out (Ve htop hsf); have g5 : w4.grownBy ((w4.alloc (.cells #[.int .i64 0, .int .i64 0, .string ⟨#[]⟩, .slice none 0 0] 94)).drew) none := both (Z8 w4 (.cells #[.int .i64 0, .int .i64 0, .string ⟨#[]⟩, .slice none 0 0] 94)) (Z4 _); have hz5 := HB4.out.em.size; have hB0 := (HB.out.trans (HB4.out.em.below (by omega) hsb (fun q hq => by have := (Zw PG.out q hq).1; omega))).trans (ZX g5 (by omega) (fun k hk => by cases hk)); have abz := HL.out.le; have HC : Hid (Calls Tryz.prog 33 #[.pointer (some ⟨sb, 0, none⟩), Ws (.mk 7 xQ xP (.slice xO KD.length xM) KD), Ws (.mk nu nk ni (.slice ng xL.length mZ) xL)] ((w4.alloc (.cells #[.int .i64 0, .int .i64 0, .string ⟨#[]⟩, .slice none 0 0] 94)).drew) (MS (Boxed (Mine M V.heap.size) w4.heap.size) sb (.slice (some ⟨fb, Ue, none⟩) p.Zu.length fc) tv p.main fuel o2 (Yl p fuel m (ZW (.mk 7 xQ xP (.slice xO KD.length xM) KD)) (X8 p (ZW (.mk 7 xQ xP (.slice xO KD.length xM) KD)) (ZW (.mk nu nk ni (.slice ng xL.length mZ) xL))) [] 0 (tick s)) ((w4.alloc (.cells #[.int .i64 0, .int .i64 0, .string ⟨#[]⟩, .slice none 0 0] 94)).drew))) := Z9 (SC.out m (by omega) (Boxed (Mine M V.heap.size) w4.heap.size) w0 sb _ tv (tick s) o2 (.mk 7 xQ xP (.slice xO KD.length xM) KD) (.mk nu nk ni (.slice ng xL.length mZ) xL) _ HP.out hB0 hw0 (fun b hb => by show b < (w4.alloc (.cells #[.int .i64 0, .int .i64 0, .string ⟨#[]⟩, .slice none 0 0] 94)).heap.size; have hsA : (w4.alloc (.cells #[.int .i64 0, .int .i64 0, .string ⟨#[]⟩, .slice none 0 0] 94)).heap.size = w4.heap.size + 1 := (by simp); rw [hsA]; rcases hb with hb | hb; (have := Vn b hb; omega); omega) (HB4.out.VL.free g5) ((HF2.out.mine Nr).kept (ZG g5)) ((HA2.out.mine Nr).kept (ZG g5)) uL.out rfl dH.out HL.out.out (by show fuel - (s.steps + 1) < _; have := HL.out.ru; omega) (by show 0 <= s.steps + 1; omega) (Ve htop hsf)); rw [ZE, ZE] at HC; clear g5 hB0 hz5 abz; generalize Yl p fuel m (ZW (.mk 7 xQ xP (.slice xO KD.length xM) KD)) (X8 p (ZW (.mk 7 xQ xP (.slice xO KD.length xM) KD)) (ZW (.mk nu nk ni (.slice ng xL.length mZ) xL))) [] 0 (tick s) = r at HC HE xJ; have hr1 := Z9 xJ.1; have HT5 : Hid (r.2.steps <= fuel) := Z9 xJ.2.2.2; have HS5 : Hid (s.steps + 1 <= r.2.steps) := Z9 xJ.2.2.1; have HO5 : Hid (r.2.out.length <= 1000) := Z9 xJ.2.1; clear xJ xK; have h8d : ((w4.alloc (.cells #[.int .i64 0, .int .i64 0, .string ⟨#[]⟩, .slice none 0 0] 94)).drew).cell? ⟨g4, UZ, none⟩ = some (.int .i64 7) /\ ((w4.alloc (.cells #[.int .i64 0, .int .i64 0, .string ⟨#[]⟩, .slice none 0 0] 94)).drew).cell? ⟨g4, UZ + 1, none⟩ = some (.int .i64 xQ) /\ ((w4.alloc (.cells #[.int .i64 0, .int .i64 0, .string ⟨#[]⟩, .slice none 0 0] 94)).drew).cell? ⟨g4, UZ + 2, none⟩ = some (.string xP) /\ ((w4.alloc (.cells #[.int .i64 0, .int .i64 0, .string ⟨#[]⟩, .slice none 0 0] 94)).drew).cell? ⟨g4, UZ + 3, none⟩ = some (.slice xO KD.length xM) /\ ((w4.alloc (.cells #[.int .i64 0, .int .i64 0, .string ⟨#[]⟩, .slice none 0 0] 94)).drew).cell? ⟨g4, UZ + 4, none⟩ = some (.int .i64 nu) /\ ((w4.alloc (.cells #[.int .i64 0, .int .i64 0, .string ⟨#[]⟩, .slice none 0 0] 94)).drew).cell? ⟨g4, UZ + 4 + 1, none⟩ = some (.int .i64 nk) /\ ((w4.alloc (.cells #[.int .i64 0, .int .i64 0, .string ⟨#[]⟩, .slice none 0 0] 94)).drew).cell? ⟨g4, UZ + 4 + 2, none⟩ = some (.string ni) /\ ((w4.alloc (.cells #[.int .i64 0, .int .i64 0, .string ⟨#[]⟩, .slice none 0 0] 94)).drew).cell? ⟨g4, UZ + 4 + 3, none⟩ = some (.slice ng xL.length mZ) := QG ((both (Z8 w4 (.cells #[.int .i64 0, .int .i64 0, .string ⟨#[]⟩, .slice none 0 0] 94)) (Z4 _)).block g4 (World.block_lt_of_cell? w4 ⟨g4, UZ, none⟩ h8.1) (by nofun)) h8; have x0a : (w4.alloc (.cells #[.int .i64 0, .int .i64 0, .string ⟨#[]⟩, .slice none 0 0] 94)).cell? ⟨g4, UZ, none⟩ = some (.int .i64 7) := Z5 h8.1 _; have H8 := Z9 h8; clear h8; have hE := HE.out; by_cases hr0 : r.1.op = 0
  ·rw [ZY hr0] at hE
   have W9 := Z9 hE; clear hE HE; have Ef := Z5 j0 (.cells #[.int .i64 0, .int .i64 0, .string ⟨#[]⟩, .slice none 0 0] 94); have Ee := Z5 j1 (.cells #[.int .i64 0, .int .i64 0, .string ⟨#[]⟩, .slice none 0 0] 94); have Ed := Z5 j2 (.cells #[.int .i64 0, .int .i64 0, .string ⟨#[]⟩, .slice none 0 0] 94); go_wp2_with (refine ZH rfl _ _ _ _ _ rfl _ (hsl2 _) ?_); go_region_held3 (fun w9 => w9.cell? ⟨g4, UZ, none⟩ = some (.int .i64 7) /\ w9.cell? ⟨g4, UZ + 1, none⟩ = some (.int .i64 xQ) /\ w9.cell? ⟨g4, UZ + 2, none⟩ = some (.string xP) /\ w9.cell? ⟨g4, UZ + 3, none⟩ = some (.slice xO KD.length xM) /\ w9.cell? ⟨g4, UZ + 4, none⟩ = some (.int .i64 nu) /\ w9.cell? ⟨g4, UZ + 4 + 1, none⟩ = some (.int .i64 nk) /\ w9.cell? ⟨g4, UZ + 4 + 2, none⟩ = some (.string ni) /\ w9.cell? ⟨g4, UZ + 4 + 3, none⟩ = some (.slice ng xL.length mZ)) (first | exact h8d | exact h8e | exact h8f) ((go_at_call 33; refine HC.out.mono ?_; rintro e w6 ⟨⟨xo, xn, xs, xv, xl⟩, o3, rfl, hx, hxv, hS6, hE6⟩; obtain ⟨xa, xc, rfl, _⟩ := hxv.parts.1; rw [ZE]; have R5 := Z9 (Rh HB4.out hsb (Z4 _) hx hxv hS6 hE6); have hxo : xo = r.1.op := (YF _).symm.trans (congrArg ZT.op hx); obtain ⟨n0, n1, n2, n3⟩ := YV R5.out.box; have f0 := Lib.frozen_of_heap R5.out.box 0; have f1 := Lib.frozen_of_heap R5.out.box 1; have f2 := Lib.frozen_of_heap R5.out.box 2; have f3 := Lib.frozen_of_heap R5.out.box 3; clear hx hxv hS6 hE6; have h8e := QG (HK8.out _ R5.out.nI) H8.out; have h8f := QG (HK8.out _ R5.out.keep) H8.out; rw [hr0] at hxo; subst hxo)); go_wp2_with (first
    | (go_at_call 63; refine (Ym sb _ tv p.main fuel r.2 o3 4 0 _ R5.out.base.VL).mono ?_; rintro e w2 ⟨rfl, hs2, hE2⟩; obtain ⟨n2, hP⟩ := Xq R5.out.base hsb hs2 hE2 W9.out; have HP := Z9 hP; clear hP hs2 hE2)
    | (refine Zc rfl 94 _ _ rfl (V.heap.size + 2) Zf rfl rfl 94 Zf n2 YX rfl (ZO _ rfl) ?_))
   exact Y4 (YC rfl _ _ (V.heap.size + 2) 94 _ (0, 0) _ rfl (Zd _ _ _ _ _ _ n2) Tryz.underlying94 rfl YX) rfl HP.out
  ·rw [Z7 hr0] at hE
   have HE := Z9 hE; clear hE; have R7 := Vt HASH.out hfr; have Ef := Z5 j0 (.cells #[.int .i64 0, .int .i64 0, .string ⟨#[]⟩, .slice none 0 0] 94); have Ee := Z5 j1 (.cells #[.int .i64 0, .int .i64 0, .string ⟨#[]⟩, .slice none 0 0] 94); have Ed := Z5 j2 (.cells #[.int .i64 0, .int .i64 0, .string ⟨#[]⟩, .slice none 0 0] 94); have hst := (ZK HL.out.base.VL.blk).2.2.2.2.1; go_wp2_with (refine ZH rfl _ _ _ _ _ rfl _ (hsl2 _) ?_); go_region_held3 (fun w9 => w9.cell? ⟨g4, UZ, none⟩ = some (.int .i64 7) /\ w9.cell? ⟨g4, UZ + 1, none⟩ = some (.int .i64 xQ) /\ w9.cell? ⟨g4, UZ + 2, none⟩ = some (.string xP) /\ w9.cell? ⟨g4, UZ + 3, none⟩ = some (.slice xO KD.length xM) /\ w9.cell? ⟨g4, UZ + 4, none⟩ = some (.int .i64 nu) /\ w9.cell? ⟨g4, UZ + 4 + 1, none⟩ = some (.int .i64 nk) /\ w9.cell? ⟨g4, UZ + 4 + 2, none⟩ = some (.string ni) /\ w9.cell? ⟨g4, UZ + 4 + 3, none⟩ = some (.slice ng xL.length mZ)) (first | exact h8d | exact h8e | exact h8f) ((go_at_call 33; refine HC.out.mono ?_; rintro e w6 ⟨⟨xo, xn, xs, xv, xl⟩, o3, rfl, hx, hxv, hS6, hE6⟩; obtain ⟨xa, xc, rfl, _⟩ := hxv.parts.1; rw [ZE]; have R5 := Z9 (Rh HB4.out hsb (Z4 _) hx hxv hS6 hE6); have hxo : xo = r.1.op := (YF _).symm.trans (congrArg ZT.op hx); obtain ⟨n0, n1, n2, n3⟩ := YV R5.out.box; have f0 := Lib.frozen_of_heap R5.out.box 0; have f1 := Lib.frozen_of_heap R5.out.box 1; have f2 := Lib.frozen_of_heap R5.out.box 2; have f3 := Lib.frozen_of_heap R5.out.box 3; clear hx hxv hS6 hE6; have h8e := QG (HK8.out _ R5.out.nI) H8.out; have h8f := QG (HK8.out _ R5.out.keep) H8.out; have hxb : (xo == 0) = false := Zt (by rw [hxo]; exact hr0); clear hxo; have HB5 := Z9 R5.out.base; have HK5 := Z9 (HK4.out.trans R5.out.keep); have HX5 := Z9 R5.out.isv; have R8 : Hid (Yx p (ZW (.mk xo xn xs (.slice xa xl.length xc) xl))) := Z9 (by rw [R5.out.strip]; exact hr1.out); have HE5 := Z9 HE.out; rw [<- R5.out.strip] at HE5)); go_wp2_with (first
    | (refine ZH rfl _ _ _ _ _ rfl _ (hsl2 _) ?_)
    | (at_builtin; refine wpList_append_grows _ rfl _ _ 92 rfl 94 iV (.agg Zf) 4 56 Tryz.underlying92 WE UE UD UC rfl (by decide) a fr fr (ZR (stk.take fr)) rfl R7 ?abA ?abB _ 1 1 [.int .i64 xo, .int .i64 xn, .string xs, .slice xa xl.length xc] rfl rfl ?abC (KF _ _ _ _ _ _) (Nat.lt_succ_self _) ?abD ?abE ?_))
   try case abA => rw [Zg, List.length_take]; omega
   try case abB => intro b hb j u hj; exact Wo (VR (HL.out.stack.kept (HK5.out.trans (ZG (Z8 _ _)))) fr hfr) hb hj
   try case abC => exact World.news_of_block (cs := #[.int .i64 xo, .int .i64 xn, .string xs, .slice xa xl.length xc]) (ZF (by simp) _)
   try case abD => unfold maxLen; omega
   try case abE => omega
   intro v6 w6 hown6 Y6; have hj := Z9 (Vx HL.out HB5.out HK5.out hfr (fun b hb => Nat.lt_of_lt_of_le (Vn b hb) (Nat.le_trans hz4 R5.out.size)) HX5.out R8.out HE5.out HS5.out HT5.out HO5.out (by omega) (by omega) (Z8 _ _) (by simp) hown6 Y6); have R6 := (ZK hj.out.base.VL.blk).2.2.2.2.1; clear hown6 Y6; go_wp2_with fail; refine Handed.intro (mu _) ?_ (hJ _ _ _ ⟨rfl, rfl, rfl, (by rw [Xi]; exact ⟨_, _, _, _, _, _, rfl, hj⟩), rfl⟩); rw [<- hmu, U7]; simp only [R6, hst, Option.getD_some, intOf]; exact VI htop hsf HS5.out
 ·have xK : ¬ (ZW (.mk f2o xQ xP (.slice xO KD.length xM) KD)).op = 7 := by rw [YF]; exact h7c
  rw [Z7 xK] at HE; have hd0 : (default : ZT).op = 0 := rfl; have hE := HE.out; simp only [hd0, if_true] at hE; have W9 := Z9 hE; clear hE HE hd0 xK; have HB5 := Z9 (HB4.out.free (Z8 w4 (.cells #[.int .i64 0, .int .i64 0, .string ⟨#[]⟩, .slice none 0 0] 94))); have Ef := Z5 j0 (.cells #[.int .i64 0, .int .i64 0, .string ⟨#[]⟩, .slice none 0 0] 94); have Ee := Z5 j1 (.cells #[.int .i64 0, .int .i64 0, .string ⟨#[]⟩, .slice none 0 0] 94); have Ed := Z5 j2 (.cells #[.int .i64 0, .int .i64 0, .string ⟨#[]⟩, .slice none 0 0] 94); have x0a := Z5 h8.1 (.cells #[.int .i64 0, .int .i64 0, .string ⟨#[]⟩, .slice none 0 0] 94); have h7b : (f2o == 7) = false := Zt h7c; have Py := Z9 (Ym sb _ tv p.main fuel (tick s) o2 4 0 _ HB5.out.VL); go_wp2_with (first
   | (refine ZH rfl _ _ _ _ _ rfl _ (hsl2 _) ?_)
   | (go_at_call 63; refine Py.out.mono ?_; rintro e w2 ⟨rfl, hs2, hE2⟩; obtain ⟨n2, hP⟩ := Xq HB5.out hsb hs2 hE2 W9.out; have HP := Z9 hP; clear hP hs2 hE2)
   | (refine Zc rfl 94 _ _ rfl (V.heap.size + 2) Zf rfl rfl 94 Zf n2 YX rfl (ZO _ rfl) ?_))
  exact Y4 (YC rfl _ _ (V.heap.size + 2) 94 _ (0, 0) _ rfl (Zd _ _ _ _ _ _ n2) Tryz.underlying94 rfl YX) rfl HP.out
end Go.Proofs.YtbcfdebdikgijaaGreatDoor
