/- The law's walk: NormalHeads. Printed by gen_heads.py, expanded by mac.py. -/
import Derived.Test.YtkiffgdinmpljaaGreatDoorF36
import Derived.Test.YtkiffgdinmpljaaGreatDoorF38
import Derived.Test.YtkiffgdinmpljaaGreatDoorF39
import Derived.Test.YtkiffgdinmpljaaGreatDoorF40
set_option linter.unusedVariables false
set_option linter.unusedSimpArgs false
namespace Go.Proofs.YtkiffgdinmpljaaGreatDoor
open Go Go.RowKit
set_option maxHeartbeats 8000000
set_option maxRecDepth 100000
theorem heads_walk (x : ConD) (w : World) (hE : EnvN w) (h : IsCon (fun _ => True) w x) :
 Calls Tryz.prog 4 #[conV x] w fun e w' => e = .returned (.bool true)/\Below w.heap.size w w' := by
 obtain ⟨xop, xn, xs, xk, xns, xl, xka, xkn, xkc, xna, xnc, xa, xcc, rfl, hxk, _⟩ := cSQ h
 have HXV := hJQ (cVQ (op := xop) (n := xn) (s := xs) (nv := .slice xna xns.length xnc) (lv := .slice xa xl.length xcc) (ns := xns) (l := xl) hxk)
 have HCE : Hid (cEQ (ConD.mk xop xn xs xk (.slice xna xns.length xnc) xns (.slice xa xl.length xcc) xl) = [.int .i64 xop, .int .i64 xn, .string xs, .slice xka xkn xkc, .slice xna xns.length xnc, .slice xa xl.length xcc]) := by show [_, _, _, xk.v, _, _] = _; rw [hxk]; rfl
 rw [HXV.out]
 have hb0 : Below w.heap.size w (w.alloc (.cells #[.int .i64 xop, .int .i64 xn, .string xs, .slice xka xkn xkc, .slice xna xns.length xnc, .slice xa xl.length xcc] 28)) := (Below.refl _ _).alloc (nLQ _) _
 have gC := nHQ w (.cells #[.int .i64 xop, .int .i64 xn, .string xs, .slice xka xkn xkc, .slice xna xns.length xnc, .slice xa xl.length xcc] 28)
 have HX := hJQ h
 have HE := hJQ hE
 have HAw := hJQ (awake_any _ (hE.below hb0))
 clear h hE hxk
 go_enter Tryz.func4, Tryz.ntmps4
 go_wp2_with fail
 refine HAw.out.mono ?_
 rintro e w2 ⟨rfl, hb2⟩
 have hbw2 := hb0.trans (hb2.mono hb0.size)
 have k2 := (hb2.block _ (hLQ gC)).trans gC
 have g1 := gAQ w2 (.cells #[.int .i64 xop, .int .i64 xn, .string xs, .slice xka xkn xkc, .slice xna xns.length xnc, .slice xa xl.length xcc] 28)
 have hbw3 := hbw2.trans (gUQ (B := w.heap.size) g1 hbw2.size (by nofun))
 have hrow : RowP (fun _ => True) (w2.alloc (.cells #[.int .i64 xop, .int .i64 xn, .string xs, .slice xka xkn xkc, .slice xna xns.length xnc, .slice xa xl.length xcc] 28)) (.slice (some ⟨w2.heap.size, 0, none⟩) [(ConD.mk xop xn xs xk (.slice xna xns.length xnc) xns (.slice xa xl.length xcc) xl)].length 1) [(ConD.mk xop xn xs xk (.slice xna xns.length xnc) xns (.slice xa xl.length xcc) xl)].length (cCQ [(ConD.mk xop xn xs xk (.slice xna xns.length xnc) xns (.slice xa xl.length xcc) xl)]) := by
  rw [one_enc, HCE.out]
  exact rHQ (nHQ w2 (.cells #[.int .i64 xop, .int .i64 xn, .string xs, .slice xka xkn xkc, .slice xna xns.length xnc, .slice xa xl.length xcc] 28)) trivial _ rfl 1 1 (nLQ _)
 have HFt := hJQ (fits_any (fun _ => True) (ConD.mk xop xn xs xk (.slice xna xns.length xnc) xns (.slice xa xl.length xcc) xl) _ (w2.alloc (.cells #[.int .i64 xop, .int .i64 xn, .string xs, .slice xka xkn xkc, .slice xna xns.length xnc, .slice xa xl.length xcc] 28)) hrow (iBQ HX.out hbw3))
 have k3 := (g1.block _ (hLQ k2) (by nofun)).trans k2
 obtain ⟨d0, d1, d2, d3, d4, d5⟩ := cnQ k2
 have HK3 := hJQ k3
 have HB3 := hJQ hbw3
 clear HAw hb2 hbw2 k2 g1 hbw3 hrow k3 hb0 gC HCE
 go_wp2_with fail
 clear d0 d1 d2 d3 d4 d5
 generalize w2.alloc (.cells #[.int .i64 xop, .int .i64 xn, .string xs, .slice xka xkn xkc, .slice xna xns.length xnc, .slice xa xl.length xcc] 28) = V2 at *
 refine HFt.out.mono ?_
 rintro e w3 ⟨bf, rfl, hb3, hbd⟩
 have hbw := HB3.out.trans (hb3.mono HB3.out.size)
 have k3 := (hb3.block _ (hLQ HK3.out)).trans HK3.out
 have HBD := hJQ hbd
 clear HFt hbd hb3 HK3 HB3
 cases bf
 ·go_wp2_with fail
  go_ret
  exact ⟨rfl, hbw⟩
 ·obtain ⟨hsz, hbn⟩ : sizeC (pC (ConD.mk xop xn xs xk (.slice xna xns.length xnc) xns (.slice xa xl.length xcc) xl))<=60/\bndC (pC (ConD.mk xop xn xs xk (.slice xna xns.length xnc) xns (.slice xa xl.length xcc) xl)) := HBD.out (by first | rfl | trivial)
  clear HBD
  have HHd : Hid (∀ U, Below w.heap.size w U->Calls Tryz.prog 14 #[.agg #[.int .i64 xop, .int .i64 xn, .string xs, .slice xka xkn xkc, .slice xna xns.length xnc, .slice xa xl.length xcc]] U (PairOk (fun b => U.heap.size<=b) (headR (pC (ConD.mk xop xn xs xk (.slice xna xns.length xnc) xns (.slice xa xl.length xcc) xl))) U)) := fun U hU => by
   have := head_any (fun _ => True) (ConD.mk xop xn xs xk (.slice xna xns.length xnc) xns (.slice xa xl.length xcc) xl) U (HE.out.below hU) (iBQ HX.out hU) hbn (by omega)
   rw [HXV.out] at this
   exact this
  have HUr : Hid (∀ U, Below w.heap.size w U->Calls Tryz.prog 15 #[.agg #[.int .i64 xop, .int .i64 xn, .string xs, .slice xka xkn xkc, .slice xna xns.length xnc, .slice xa xl.length xcc]] U (PairOk (fun b => U.heap.size<=b) (unrollR (pC (ConD.mk xop xn xs xk (.slice xna xns.length xnc) xns (.slice xa xl.length xcc) xl))) U)) := fun U hU => by
   have := unroll_any (fun _ => True) (ConD.mk xop xn xs xk (.slice xna xns.length xnc) xns (.slice xa xl.length xcc) xl) U (HE.out.below hU) (iBQ HX.out hU) hbn (by omega)
   rw [HXV.out] at this
   exact this
  have HRh : Hid (∀ U, Below w.heap.size w U->Calls Tryz.prog 16 #[.agg #[.int .i64 xop, .int .i64 xn, .string xs, .slice xka xkn xkc, .slice xna xns.length xnc, .slice xa xl.length xcc]] U (PairOk (fun _ => True) (headR (pC (ConD.mk xop xn xs xk (.slice xna xns.length xnc) xns (.slice xa xl.length xcc) xl))) U)) := fun U hU => by
   have := rhead_any (fun _ => True) (ConD.mk xop xn xs xk (.slice xna xns.length xnc) xns (.slice xa xl.length xcc) xl) U (iBQ HX.out hU) hbn
   rw [HXV.out] at this
   exact this
  have HRu : Hid (∀ U, Below w.heap.size w U->Calls Tryz.prog 17 #[.agg #[.int .i64 xop, .int .i64 xn, .string xs, .slice xka xkn xkc, .slice xna xns.length xnc, .slice xa xl.length xcc]] U (PairOk (fun _ => True) (unrollR (pC (ConD.mk xop xn xs xk (.slice xna xns.length xnc) xns (.slice xa xl.length xcc) xl))) U)) := fun U hU => by
   have := runroll_any (fun _ => True) (ConD.mk xop xn xs xk (.slice xna xns.length xnc) xns (.slice xa xl.length xcc) xl) U (iBQ HX.out hU) hbn
   rw [HXV.out] at this
   exact this
  clear hsz hbn HX HXV HE
  generalize headR (pC (ConD.mk xop xn xs xk (.slice xna xns.length xnc) xns (.slice xa xl.length xcc) xl)) = R1 at *
  generalize unrollR (pC (ConD.mk xop xn xs xk (.slice xna xns.length xnc) xns (.slice xa xl.length xcc) xl)) = R2 at *
  have Kx := hJQ k3
  have HB := hJQ hbw
  clear k3 hbw
  obtain ⟨c0, c1, c2, c3, c4, c5⟩ := cnQ Kx.out
  go_wp2_with fail
  clear c0 c1 c2 c3 c4 c5
  refine (HHd.out _ HB.out).mono ?_
  rintro e w4 ⟨dz, rfl, hdz, ez, hbz⟩
  obtain ⟨zop, zn, zs, zk, zns, zl, zka, zkn, zkc, zna, znc, za, zcc, rfl, hzk, _⟩ := cSQ hdz
  have HzV := hJQ (cVQ (op := zop) (n := zn) (s := zs) (nv := .slice zna zns.length znc) (lv := .slice za zl.length zcc) (ns := zns) (l := zl) hzk)
  have Ez := hJQ ez
  rw [HzV.out]
  clear hzk ez HHd
  obtain ⟨g1, kz, hrow, kn, hbn⟩ := fresh_put w4 #[.int .i64 zop, .int .i64 zn, .string zs, .slice zka zkn zkc, .slice zna zns.length znc, .slice za zl.length zcc]
  have hbS := hbz.trans (hbn.mono hbz.size)
  have Kz := hJQ kn
  have Iz := hJQ ((iBQ hdz hbn).mono (Q := (fun _ => True)) (fun _ _ _ => trivial))
  have Kx := hJQ ((hbS.block _ (hLQ Kx.out)).trans Kx.out)
  have HB := hJQ (HB.out.trans (hbS.mono HB.out.size))
  clear g1 hrow hbS hbn kn hdz hbz
  go_upto_region 6 with (refine wpList_store_row rfl 28 _ _ rfl w4.heap.size _ rfl rfl 28 _ kz cIQ rfl (all_one _ rfl) ?_)
  clear kz
  generalize (w4.alloc (.cells #[.int .i64 0, .int .i64 0, .string ⟨#[]⟩, .slice none 0 0, .slice none 0 0, .slice none 0 0] 28)).setRow w4.heap.size #[.int .i64 zop, .int .i64 zn, .string zs, .slice zka zkn zkc, .slice zna zns.length znc, .slice za zl.length zcc] = Vz at *
  obtain ⟨c0, c1, c2, c3, c4, c5⟩ := cnQ Kx.out
  go_wp2_with fail
  clear c0 c1 c2 c3 c4 c5
  refine (HUr.out _ HB.out).mono ?_
  rintro e w5 ⟨dy, rfl, hdy, ey, hby⟩
  obtain ⟨yop, yn, ys, yk, yns, yl, yka, ykn, ykc, yna, ync, ya, ycc, rfl, hyk, _⟩ := cSQ hdy
  have HyV := hJQ (cVQ (op := yop) (n := yn) (s := ys) (nv := .slice yna yns.length ync) (lv := .slice ya yl.length ycc) (ns := yns) (l := yl) hyk)
  have Ey := hJQ ey
  rw [HyV.out]
  clear hyk ey HUr
  obtain ⟨g1, kz, hrow, kn, hbn⟩ := fresh_put w5 #[.int .i64 yop, .int .i64 yn, .string ys, .slice yka ykn ykc, .slice yna yns.length ync, .slice ya yl.length ycc]
  have hbS := hby.trans (hbn.mono hby.size)
  have Ky := hJQ kn
  have Iy := hJQ ((iBQ hdy hbn).mono (Q := (fun _ => True)) (fun _ _ _ => trivial))
  have Kx := hJQ ((hbS.block _ (hLQ Kx.out)).trans Kx.out)
  have Kz := hJQ ((hbS.block _ (hLQ Kz.out)).trans Kz.out)
  have Iz := hJQ (iBQ Iz.out hbS)
  have HB := hJQ (HB.out.trans (hbS.mono HB.out.size))
  clear g1 hrow hbS hbn kn hdy hby
  go_upto_region 7 with (refine wpList_store_row rfl 28 _ _ rfl w5.heap.size _ rfl rfl 28 _ kz cIQ rfl (all_one _ rfl) ?_)
  clear kz
  generalize (w5.alloc (.cells #[.int .i64 0, .int .i64 0, .string ⟨#[]⟩, .slice none 0 0, .slice none 0 0, .slice none 0 0] 28)).setRow w5.heap.size #[.int .i64 yop, .int .i64 yn, .string ys, .slice yka ykn ykc, .slice yna yns.length ync, .slice ya yl.length ycc] = Vy at *
  obtain ⟨c0, c1, c2, c3, c4, c5⟩ := cnQ Kx.out
  go_wp2_with fail
  clear c0 c1 c2 c3 c4 c5
  refine (HRh.out _ HB.out).mono ?_
  rintro e w6 ⟨dq, rfl, hdq, eq, hbq⟩
  obtain ⟨qop, qn, qs, qk, qns, ql, qka, qkn, qkc, qna, qnc, qa, qcc, rfl, hqk, _⟩ := cSQ hdq
  have HqV := hJQ (cVQ (op := qop) (n := qn) (s := qs) (nv := .slice qna qns.length qnc) (lv := .slice qa ql.length qcc) (ns := qns) (l := ql) hqk)
  have Eq := hJQ eq
  rw [HqV.out]
  clear hqk eq HRh
  obtain ⟨g1, kz, hrow, kn, hbn⟩ := fresh_put w6 #[.int .i64 qop, .int .i64 qn, .string qs, .slice qka qkn qkc, .slice qna qns.length qnc, .slice qa ql.length qcc]
  have hbS := hbq.trans (hbn.mono hbq.size)
  have Kq := hJQ kn
  have Iq := hJQ ((iBQ hdq hbn).mono (Q := (fun _ => True)) (fun _ _ _ => trivial))
  have Kx := hJQ ((hbS.block _ (hLQ Kx.out)).trans Kx.out)
  have Kz := hJQ ((hbS.block _ (hLQ Kz.out)).trans Kz.out)
  have Iz := hJQ (iBQ Iz.out hbS)
  have Ky := hJQ ((hbS.block _ (hLQ Ky.out)).trans Ky.out)
  have Iy := hJQ (iBQ Iy.out hbS)
  have HB := hJQ (HB.out.trans (hbS.mono HB.out.size))
  clear g1 hrow hbS hbn kn hdq hbq
  go_upto_region 8 with (refine wpList_store_row rfl 28 _ _ rfl w6.heap.size _ rfl rfl 28 _ kz cIQ rfl (all_one _ rfl) ?_)
  clear kz
  generalize (w6.alloc (.cells #[.int .i64 0, .int .i64 0, .string ⟨#[]⟩, .slice none 0 0, .slice none 0 0, .slice none 0 0] 28)).setRow w6.heap.size #[.int .i64 qop, .int .i64 qn, .string qs, .slice qka qkn qkc, .slice qna qns.length qnc, .slice qa ql.length qcc] = Vq at *
  obtain ⟨c0, c1, c2, c3, c4, c5⟩ := cnQ Kx.out
  go_wp2_with fail
  clear c0 c1 c2 c3 c4 c5
  refine (HRu.out _ HB.out).mono ?_
  rintro e w7 ⟨dr, rfl, hdr, er, hbr⟩
  obtain ⟨rop, rn, rs, rk, rns, rl, rka, rkn, rkc, rna, rnc, ra, rcc, rfl, hrk, _⟩ := cSQ hdr
  have HrV := hJQ (cVQ (op := rop) (n := rn) (s := rs) (nv := .slice rna rns.length rnc) (lv := .slice ra rl.length rcc) (ns := rns) (l := rl) hrk)
  have Er := hJQ er
  rw [HrV.out]
  clear hrk er HRu
  obtain ⟨g1, kz, hrow, kn, hbn⟩ := fresh_put w7 #[.int .i64 rop, .int .i64 rn, .string rs, .slice rka rkn rkc, .slice rna rns.length rnc, .slice ra rl.length rcc]
  have hbS := hbr.trans (hbn.mono hbr.size)
  have Kr := hJQ kn
  have Ir := hJQ ((iBQ hdr hbn).mono (Q := (fun _ => True)) (fun _ _ _ => trivial))
  have Kx := hJQ ((hbS.block _ (hLQ Kx.out)).trans Kx.out)
  have Kz := hJQ ((hbS.block _ (hLQ Kz.out)).trans Kz.out)
  have Iz := hJQ (iBQ Iz.out hbS)
  have Ky := hJQ ((hbS.block _ (hLQ Ky.out)).trans Ky.out)
  have Iy := hJQ (iBQ Iy.out hbS)
  have Kq := hJQ ((hbS.block _ (hLQ Kq.out)).trans Kq.out)
  have Iq := hJQ (iBQ Iq.out hbS)
  have HB := hJQ (HB.out.trans (hbS.mono HB.out.size))
  clear g1 hrow hbS hbn kn hdr hbr
  go_upto_region 9 with (refine wpList_store_row rfl 28 _ _ rfl w7.heap.size _ rfl rfl 28 _ kz cIQ rfl (all_one _ rfl) ?_)
  clear kz
  generalize (w7.alloc (.cells #[.int .i64 0, .int .i64 0, .string ⟨#[]⟩, .slice none 0 0, .slice none 0 0, .slice none 0 0] 28)).setRow w7.heap.size #[.int .i64 rop, .int .i64 rn, .string rs, .slice rka rkn rkc, .slice rna rns.length rnc, .slice ra rl.length rcc] = Vr at *
  have HS1 : Hid (∀ U, Below Vr.heap.size Vr U->Calls Tryz.prog 13 #[.agg #[.int .i64 zop, .int .i64 zn, .string zs, .slice zka zkn zkc, .slice zna zns.length znc, .slice za zl.length zcc], .agg #[.int .i64 qop, .int .i64 qn, .string qs, .slice qka qkn qkc, .slice qna qns.length qnc, .slice qa ql.length qcc]] U fun e w' => e = .returned (.bool true)/\Below U.heap.size U w') := fun U hU => by
   have := same_yes (ConD.mk zop zn zs zk (.slice zna zns.length znc) zns (.slice za zl.length zcc) zl) (ConD.mk qop qn qs qk (.slice qna qns.length qnc) qns (.slice qa ql.length qcc) ql) U (iBQ Iz.out hU) (iBQ Iq.out hU) (by rw [Ez.out, Eq.out])
   rw [HzV.out, HqV.out] at this
   exact this
  have HS2 : Hid (∀ U, Below Vr.heap.size Vr U->Calls Tryz.prog 13 #[.agg #[.int .i64 yop, .int .i64 yn, .string ys, .slice yka ykn ykc, .slice yna yns.length ync, .slice ya yl.length ycc], .agg #[.int .i64 rop, .int .i64 rn, .string rs, .slice rka rkn rkc, .slice rna rns.length rnc, .slice ra rl.length rcc]] U fun e w' => e = .returned (.bool true)/\Below U.heap.size U w') := fun U hU => by
   have := same_yes (ConD.mk yop yn ys yk (.slice yna yns.length ync) yns (.slice ya yl.length ycc) yl) (ConD.mk rop rn rs rk (.slice rna rns.length rnc) rns (.slice ra rl.length rcc) rl) U (iBQ Iy.out hU) (iBQ Ir.out hU) (by rw [Ey.out, Er.out])
   rw [HyV.out, HrV.out] at this
   exact this
  clear Ez Ey Eq Er HzV HyV HqV HrV Iz Iy Iq Ir Kx
  generalize R1.2 = n1 at *
  generalize R2.2 = n2 at *
  obtain ⟨z0, z1, z2, z3, z4, z5⟩ := cnQ Kz.out
  obtain ⟨q0, q1, q2, q3, q4, q5⟩ := cnQ Kq.out
  go_wp2_with fail
  clear z0 z1 z2 z3 z4 z5 q0 q1 q2 q3 q4 q5
  refine (HS1.out _ (Below.refl _ _)).mono ?_
  rintro e w8 ⟨rfl, hb8⟩
  have kY8 := (hb8.block _ (hLQ Ky.out)).trans Ky.out
  have kR8 := (hb8.block _ (hLQ Kr.out)).trans Kr.out
  have HB8 := hJQ hb8
  clear hb8 HS1
  obtain ⟨y0, y1, y2, y3, y4, y5⟩ := cnQ kY8
  obtain ⟨r0, r1, r2, r3, r4, r5⟩ := cnQ kR8
  clear kY8 kR8
  go_wp2_with fail
  clear y0 y1 y2 y3 y4 y5 r0 r1 r2 r3 r4 r5
  refine (HS2.out _ HB8.out).mono ?_
  rintro e w9 ⟨rfl, hb9⟩
  have HBF := HB.out.trans ((HB8.out.trans (hb9.mono HB8.out.size)).mono HB.out.size)
  clear HS2 hb9 HB8
  go_wp2_with fail
  go_ret
  exact ⟨rfl, HBF⟩
end Go.Proofs.YtkiffgdinmpljaaGreatDoor
