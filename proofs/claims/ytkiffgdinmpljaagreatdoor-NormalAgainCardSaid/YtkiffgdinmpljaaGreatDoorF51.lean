/- The law's walk: NormalAgain. Printed by gen_again.py, expanded by mac.py. -/
import Derived.Test.YtkiffgdinmpljaaGreatDoorF34
import Derived.Test.YtkiffgdinmpljaaGreatDoorF50
import Derived.Test.YtkiffgdinmpljaaGreatDoorF48
set_option linter.unusedVariables false
set_option linter.unusedSimpArgs false
namespace Go.Proofs.YtkiffgdinmpljaaGreatDoor
open Go Go.RowKit
set_option maxHeartbeats 8000000
set_option maxRecDepth 100000
theorem again_walk (x : ConD) (w : World) (hE : EnvN w) (h : IsCon (fun _ => True) w x) :
 Calls Tryz.prog 5 #[conV x] w fun e w' => e = .returned (.bool true)/\Below w.heap.size w w' := by
 obtain ⟨xop, xn, xs, xk, xns, xl, xka, xkn, xkc, xna, xnc, xa, xcc, rfl, hxk, _⟩ := cSQ h
 have HXV := hJQ (cVQ (op := xop) (n := xn) (s := xs) (nv := .slice xna xns.length xnc) (lv := .slice xa xl.length xcc) (ns := xns) (l := xl) hxk)
 have HCE : Hid (cEQ (ConD.mk xop xn xs xk (.slice xna xns.length xnc) xns (.slice xa xl.length xcc) xl) = [.int .i64 xop, .int .i64 xn, .string xs, .slice xka xkn xkc, .slice xna xns.length xnc, .slice xa xl.length xcc]) := by show [_, _, _, xk.v, _, _] = _; rw [hxk]; rfl
 rw [HXV.out]
 have hb0 : Below w.heap.size w (w.alloc (.cells #[.int .i64 xop, .int .i64 xn, .string xs, .slice xka xkn xkc, .slice xna xns.length xnc, .slice xa xl.length xcc] 28)) := (Below.refl _ _).alloc (Nat.le_refl _) _
 have gC := nHQ w (.cells #[.int .i64 xop, .int .i64 xn, .string xs, .slice xka xkn xkc, .slice xna xns.length xnc, .slice xa xl.length xcc] 28)
 have HX := hJQ h
 have HE := hJQ hE
 have HAw := hJQ (awake_any _ (hE.below hb0))
 clear h hE hxk
 go_enter Tryz.func5, Tryz.ntmps5
 go_wp2_with fail
 refine HAw.out.mono ?_
 rintro e w2 ⟨rfl, hb2⟩
 have hbw2 := hb0.trans (hb2.mono hb0.size)
 have k2 := (hb2.block _ (hLQ gC)).trans gC
 have g1 := gAQ w2 (.cells #[.int .i64 xop, .int .i64 xn, .string xs, .slice xka xkn xkc, .slice xna xns.length xnc, .slice xa xl.length xcc] 28)
 have hbw3 := hbw2.trans (gUQ (B := w.heap.size) g1 hbw2.size (by nofun))
 have hrow : RowP (fun _ => True) (w2.alloc (.cells #[.int .i64 xop, .int .i64 xn, .string xs, .slice xka xkn xkc, .slice xna xns.length xnc, .slice xa xl.length xcc] 28)) (.slice (some ⟨w2.heap.size, 0, none⟩) [(ConD.mk xop xn xs xk (.slice xna xns.length xnc) xns (.slice xa xl.length xcc) xl)].length 1) [(ConD.mk xop xn xs xk (.slice xna xns.length xnc) xns (.slice xa xl.length xcc) xl)].length (cCQ [(ConD.mk xop xn xs xk (.slice xna xns.length xnc) xns (.slice xa xl.length xcc) xl)]) := by
  rw [one_enc, HCE.out]
  exact rHQ (nHQ w2 (.cells #[.int .i64 xop, .int .i64 xn, .string xs, .slice xka xkn xkc, .slice xna xns.length xnc, .slice xa xl.length xcc] 28)) trivial _ rfl 1 1 (Nat.le_refl _)
 have HFt := hJQ (ltame_any (ConD.mk xop xn xs xk (.slice xna xns.length xnc) xns (.slice xa xl.length xcc) xl) _ (w2.alloc (.cells #[.int .i64 xop, .int .i64 xn, .string xs, .slice xka xkn xkc, .slice xna xns.length xnc, .slice xa xl.length xcc] 28)) hrow (iBQ HX.out hbw3))
 have k3 := (g1.block _ (hLQ k2) (by nofun)).trans k2
 obtain ⟨d0, d1, d2, d3, d4, d5⟩ := cnQ k2
 have HK3 := hJQ k3
 have HB3 := hJQ hbw3
 clear HAw hb2 hbw2 k2 g1 hbw3 hrow k3 hb0 gC HCE
 go_wp2_with fail
 clear d0 d1 d2 d3 d4 d5
 generalize w2.alloc (.cells #[.int .i64 xop, .int .i64 xn, .string xs, .slice xka xkn xkc, .slice xna xns.length xnc, .slice xa xl.length xcc] 28) = V2 at *
 refine HFt.out.mono ?_
 rintro e w3 ⟨bf, rfl, hb3, hbd⟩
 have hbw := HB3.out.trans (hb3.mono HB3.out.size)
 have k3 := (hb3.block _ (hLQ HK3.out)).trans HK3.out
 have HBD := hJQ hbd
 clear HFt hbd hb3 HK3 HB3
 cases bf
 ·go_wp2_with fail
  go_ret
  exact ⟨rfl, hbw⟩
 ·obtain ⟨hsz, hbn, hv, y0, m, ht⟩ : sizeC (pC (ConD.mk xop xn xs xk (.slice xna xns.length xnc) xns (.slice xa xl.length xcc) xl))<=60/\bndC (pC (ConD.mk xop xn xs xk (.slice xna xns.length xnc) xns (.slice xa xl.length xcc) xl))/\valC (pC (ConD.mk xop xn xs xk (.slice xna xns.length xnc) xns (.slice xa xl.length xcc) xl)) = true/\∃ y m, tameN (pC (ConD.mk xop xn xs xk (.slice xna xns.length xnc) xns (.slice xa xl.length xcc) xl)) = some (y, m) := HBD.out (by first | rfl | trivial)
  clear HBD
  obtain ⟨hyn, hyv, hyt⟩ := tame_normal hv ht
  have hyb : bndC y0 := norm_bnd deepF _ 10000 y0 m (val_iff.1 hv).2.2 hbn ht
  have hys := (val_iff.1 hyv).1
  have hsame := tame_same hv ht
  have HNm := normal_any (fun _ => True) (ConD.mk xop xn xs xk (.slice xna xns.length xnc) xns (.slice xa xl.length xcc) xl) w3 (HE.out.below hbw) (iBQ HX.out hbw) hbn (by omega)
  rw [HXV.out] at HNm
  have HNm := hJQ HNm
  have HIs : Hid (∀ U, Below w.heap.size w U->Calls Tryz.prog 9 #[.agg #[.int .i64 xop, .int .i64 xn, .string xs, .slice xka xkn xkc, .slice xna xns.length xnc, .slice xa xl.length xcc]] U fun e w' => e = .returned (.bool (normalC (pC (ConD.mk xop xn xs xk (.slice xna xns.length xnc) xns (.slice xa xl.length xcc) xl))))/\Below U.heap.size U w') := fun U hU => by
   have := is_any (fun _ => True) (ConD.mk xop xn xs xk (.slice xna xns.length xnc) xns (.slice xa xl.length xcc) xl) U (iBQ HX.out hU) hbn (HE.out.below hU) (by omega)
   rw [HXV.out, hv, Bool.true_and] at this
   exact this
  have HEq : Hid (∀ (d : ConD) U, Below w.heap.size w U->IsCon (fun _ => True) U d->pC d = y0->Calls Tryz.prog 19 #[.agg #[.int .i64 xop, .int .i64 xn, .string xs, .slice xka xkn xkc, .slice xna xns.length xnc, .slice xa xl.length xcc], conV d] U fun e w' => e = .returned (.tuple #[.bool true, .int .i64 0])/\Below U.heap.size U w') := fun d U hU hd hp => by
   have := nequal_any (ConD.mk xop xn xs xk (.slice xna xns.length xnc) xns (.slice xa xl.length xcc) xl) d U (HE.out.below hU) (iBQ HX.out hU) hd hv (by rw [hp]; exact hyv) hbn (by rw [hp]; exact hyb) y0 m 10000 ht (by rw [hp]; exact hyt)
   rw [HXV.out] at this
   exact this
  have HSm : Hid (∀ (d : ConD) U, Below w.heap.size w U->IsCon (fun _ => True) U d->pC d = y0->Calls Tryz.prog 13 #[.agg #[.int .i64 xop, .int .i64 xn, .string xs, .slice xka xkn xkc, .slice xna xns.length xnc, .slice xa xl.length xcc], conV d] U fun e w' => e = .returned (.bool (normalC (pC (ConD.mk xop xn xs xk (.slice xna xns.length xnc) xns (.slice xa xl.length xcc) xl))))/\Below U.heap.size U w') := fun d U hU hd hp => by
   have := rsamef_any (ConD.mk xop xn xs xk (.slice xna xns.length xnc) xns (.slice xa xl.length xcc) xl) d U (iBQ HX.out hU) hd
   rw [HXV.out] at this
   refine this.mono ?_
   rintro e w' ⟨b, rfl, hb, hbl⟩
   rw [hp] at hb
   have e1 : b = normalC (pC (ConD.mk xop xn xs xk (.slice xna xns.length xnc) xns (.slice xa xl.length xcc) xl)) := by rw [Bool.eq_iff_iff]; exact hb.trans hsame.symm
   exact ⟨by rw [e1], hbl⟩
  have HYF := hJQ (And.intro hyn (And.intro hyv (And.intro hyt (And.intro hyb hys))))
  have HN3 : Hid (∀ d er, (valC (pC (ConD.mk xop xn xs xk (.slice xna xns.length xnc) xns (.slice xa xl.length xcc) xl)) = true->∀ y m, tameN (pC (ConD.mk xop xn xs xk (.slice xna xns.length xnc) xns (.slice xa xl.length xcc) xl)) = some (y, m)->pC d = y/\er = (0 : Int))->pC d = y0/\er = 0) := fun d er hh => hh hv y0 m ht
  clear hsz hbn HX HXV hv ht hyn hyv hyt hyb hys hsame
  obtain ⟨c0, c1, c2, c3, c4, c5⟩ := cnQ k3
  have Kx := hJQ k3
  have HB := hJQ hbw
  clear k3 hbw
  go_wp2_with fail
  clear c0 c1 c2 c3 c4 c5
  refine HNm.out.mono ?_
  rintro e w4 ⟨dn, er, rfl, hdn, hb4, _, _, hn3⟩
  obtain ⟨ez, rfl⟩ := HN3.out dn er hn3
  generalize normalC (pC (ConD.mk xop xn xs xk (.slice xna xns.length xnc) xns (.slice xa xl.length xcc) xl)) = nb at *
  obtain ⟨zop, zn, zs, zk, zns, zl, zka, zkn, zkc, zna, znc, za, zcc, rfl, hzk, _⟩ := cSQ hdn
  have HZV := hJQ (cVQ (op := zop) (n := zn) (s := zs) (nv := .slice zna zns.length znc) (lv := .slice za zl.length zcc) (ns := zns) (l := zl) hzk)
  have EZ := hJQ ez
  rw [HZV.out]
  clear hzk ez HNm HN3 hn3
  have g1 := gAQ w4 (.cells #[.int .i64 0, .int .i64 0, .string ⟨#[]⟩, .slice none 0 0, .slice none 0 0, .slice none 0 0] 28)
  have kz := nHQ w4 (.cells #[.int .i64 0, .int .i64 0, .string ⟨#[]⟩, .slice none 0 0, .slice none 0 0, .slice none 0 0] 28)
  have hrow := gRQ (w4.alloc (.cells #[.int .i64 0, .int .i64 0, .string ⟨#[]⟩, .slice none 0 0, .slice none 0 0, .slice none 0 0] 28)) w4.heap.size #[.int .i64 zop, .int .i64 zn, .string zs, .slice zka zkn zkc, .slice zna zns.length znc, .slice za zl.length zcc]
  have hsz : (w4.alloc (.cells #[.int .i64 0, .int .i64 0, .string ⟨#[]⟩, .slice none 0 0, .slice none 0 0, .slice none 0 0] 28)).heap.size = w4.heap.size + 1 := by simp
  have hsA := hb4.size
  have hbS : Below w3.heap.size w3 (((w4).alloc (.cells #[.int .i64 0, .int .i64 0, .string ⟨#[]⟩, .slice none 0 0, .slice none 0 0, .slice none 0 0] 28)).setRow w4.heap.size #[.int .i64 zop, .int .i64 zn, .string zs, .slice zka zkn zkc, .slice zna zns.length znc, .slice za zl.length zcc]) := (hb4.trans (gUQ g1 (by omega) (by nofun))).trans (gUQ hrow (by omega) (fun q hq => by have e2 : w4.heap.size = q := oJQ hq; omega))
  have Kz := hJQ (setRow_heap (w4.alloc (.cells #[.int .i64 0, .int .i64 0, .string ⟨#[]⟩, .slice none 0 0, .slice none 0 0, .slice none 0 0] 28)) w4.heap.size _ #[.int .i64 zop, .int .i64 zn, .string zs, .slice zka zkn zkc, .slice zna zns.length znc, .slice za zl.length zcc] _ _ kz)
  have Iz := hJQ (((hdn.lt.grown g1 (by nofun)).grown hrow (fun q hq hp => by have e2 : w4.heap.size = q := oJQ hq; have := hp.2; omega)).mono (Q := (fun _ => True)) (fun _ _ _ => trivial))
  have Kx := hJQ ((hbS.block _ (hLQ Kx.out)).trans Kx.out)
  have HB := hJQ (HB.out.trans (hbS.mono HB.out.size))
  clear g1 hrow hsz hsA hbS hdn hb4
  go_upto_region 6 with (refine wpList_store_row rfl 28 _ _ rfl w4.heap.size _ rfl rfl 28 _ kz cIQ rfl (all_one _ rfl) ?_)
  clear kz
  generalize (w4.alloc (.cells #[.int .i64 0, .int .i64 0, .string ⟨#[]⟩, .slice none 0 0, .slice none 0 0, .slice none 0 0] 28)).setRow w4.heap.size #[.int .i64 zop, .int .i64 zn, .string zs, .slice zka zkn zkc, .slice zna zns.length znc, .slice za zl.length zcc] = Vz at *
  have HI : Hid (Calls Tryz.prog 9 #[.agg #[.int .i64 zop, .int .i64 zn, .string zs, .slice zka zkn zkc, .slice zna zns.length znc, .slice za zl.length zcc]] Vz fun e w' => e = .returned (.bool true)/\Below Vz.heap.size Vz w') := by
   have := is_any (fun _ => True) (ConD.mk zop zn zs zk (.slice zna zns.length znc) zns (.slice za zl.length zcc) zl) Vz Iz.out (by rw [EZ.out]; exact HYF.out.2.2.2.1) (HE.out.below HB.out) (by rw [EZ.out]; have := HYF.out.2.2.2.2; omega)
   rw [HZV.out, EZ.out, HYF.out.2.1, HYF.out.1] at this
   exact this
  obtain ⟨z0, z1, z2, z3, z4, z5⟩ := cnQ Kz.out
  go_wp2_with fail
  clear z0 z1 z2 z3 z4 z5
  refine HI.out.mono ?_
  rintro e w6 ⟨rfl, hb6⟩
  clear HI
  have Kx := hJQ ((hb6.block _ (hLQ Kx.out)).trans Kx.out)
  have Kz := hJQ ((hb6.block _ (hLQ Kz.out)).trans Kz.out)
  have Iz := hJQ (iBQ Iz.out hb6)
  have HB := hJQ (HB.out.trans (hb6.mono HB.out.size))
  clear hb6
  have HNm : Hid (Calls Tryz.prog 8 #[.agg #[.int .i64 zop, .int .i64 zn, .string zs, .slice zka zkn zkc, .slice zna zns.length znc, .slice za zl.length zcc]] w6 fun e w' => ∃ d, e = .returned (.tuple #[conV d, .int .i64 0])/\IsCon (fun b => w6.heap.size<=b) w' d/\pC d = y0/\Below w6.heap.size w6 w') := by
   have := normal_any (fun _ => True) (ConD.mk zop zn zs zk (.slice zna zns.length znc) zns (.slice za zl.length zcc) zl) w6 (HE.out.below HB.out) Iz.out (by rw [EZ.out]; exact HYF.out.2.2.2.1) (by rw [EZ.out]; have := HYF.out.2.2.2.2; omega)
   rw [HZV.out, EZ.out] at this
   refine this.mono ?_
   rintro e w' ⟨d, er, rfl, hd, hb, _, _, hh⟩
   obtain ⟨e1, rfl⟩ := hh HYF.out.2.1 y0 10000 HYF.out.2.2.1
   exact ⟨d, rfl, hd, e1, hb⟩
  obtain ⟨z0, z1, z2, z3, z4, z5⟩ := cnQ Kz.out
  go_wp2_with fail
  clear z0 z1 z2 z3 z4 z5
  refine HNm.out.mono ?_
  rintro e w7 ⟨dy, rfl, hdy, ey, hb7⟩
  obtain ⟨yop, yn, ys, yk, yns, yl, yka, ykn, ykc, yna, ync, ya, ycc, rfl, hyk, _⟩ := cSQ hdy
  have HYV := hJQ (cVQ (op := yop) (n := yn) (s := ys) (nv := .slice yna yns.length ync) (lv := .slice ya yl.length ycc) (ns := yns) (l := yl) hyk)
  have EY := hJQ ey
  rw [HYV.out]
  clear hyk ey HNm
  have g1 := gAQ w7 (.cells #[.int .i64 0, .int .i64 0, .string ⟨#[]⟩, .slice none 0 0, .slice none 0 0, .slice none 0 0] 28)
  have kz := nHQ w7 (.cells #[.int .i64 0, .int .i64 0, .string ⟨#[]⟩, .slice none 0 0, .slice none 0 0, .slice none 0 0] 28)
  have hrow := gRQ (w7.alloc (.cells #[.int .i64 0, .int .i64 0, .string ⟨#[]⟩, .slice none 0 0, .slice none 0 0, .slice none 0 0] 28)) w7.heap.size #[.int .i64 yop, .int .i64 yn, .string ys, .slice yka ykn ykc, .slice yna yns.length ync, .slice ya yl.length ycc]
  have hsz : (w7.alloc (.cells #[.int .i64 0, .int .i64 0, .string ⟨#[]⟩, .slice none 0 0, .slice none 0 0, .slice none 0 0] 28)).heap.size = w7.heap.size + 1 := by simp
  have hsA := hb7.size
  have hbS : Below w6.heap.size w6 (((w7).alloc (.cells #[.int .i64 0, .int .i64 0, .string ⟨#[]⟩, .slice none 0 0, .slice none 0 0, .slice none 0 0] 28)).setRow w7.heap.size #[.int .i64 yop, .int .i64 yn, .string ys, .slice yka ykn ykc, .slice yna yns.length ync, .slice ya yl.length ycc]) := (hb7.trans (gUQ g1 (by omega) (by nofun))).trans (gUQ hrow (by omega) (fun q hq => by have e2 : w7.heap.size = q := oJQ hq; omega))
  have Ky := hJQ (setRow_heap (w7.alloc (.cells #[.int .i64 0, .int .i64 0, .string ⟨#[]⟩, .slice none 0 0, .slice none 0 0, .slice none 0 0] 28)) w7.heap.size _ #[.int .i64 yop, .int .i64 yn, .string ys, .slice yka ykn ykc, .slice yna yns.length ync, .slice ya yl.length ycc] _ _ kz)
  have Iy := hJQ (((hdy.lt.grown g1 (by nofun)).grown hrow (fun q hq hp => by have e2 : w7.heap.size = q := oJQ hq; have := hp.2; omega)).mono (Q := (fun _ => True)) (fun _ _ _ => trivial))
  have Kx := hJQ ((hbS.block _ (hLQ Kx.out)).trans Kx.out)
  have Kz := hJQ ((hbS.block _ (hLQ Kz.out)).trans Kz.out)
  have Iz := hJQ (iBQ Iz.out hbS)
  have HB := hJQ (HB.out.trans (hbS.mono HB.out.size))
  clear g1 hrow hsz hsA hbS hdy hb7
  go_upto_region 9 with (refine wpList_store_row rfl 28 _ _ rfl w7.heap.size _ rfl rfl 28 _ kz cIQ rfl (all_one _ rfl) ?_)
  clear kz
  generalize (w7.alloc (.cells #[.int .i64 0, .int .i64 0, .string ⟨#[]⟩, .slice none 0 0, .slice none 0 0, .slice none 0 0] 28)).setRow w7.heap.size #[.int .i64 yop, .int .i64 yn, .string ys, .slice yka ykn ykc, .slice yna yns.length ync, .slice ya yl.length ycc] = Vy at *
  have HEc : Hid (Calls Tryz.prog 19 #[.agg #[.int .i64 xop, .int .i64 xn, .string xs, .slice xka xkn xkc, .slice xna xns.length xnc, .slice xa xl.length xcc], .agg #[.int .i64 zop, .int .i64 zn, .string zs, .slice zka zkn zkc, .slice zna zns.length znc, .slice za zl.length zcc]] Vy fun e w' => e = .returned (.tuple #[.bool true, .int .i64 0])/\Below Vy.heap.size Vy w') := by
   have := HEq.out (ConD.mk zop zn zs zk (.slice zna zns.length znc) zns (.slice za zl.length zcc) zl) Vy HB.out Iz.out EZ.out
   rw [HZV.out] at this
   exact this
  obtain ⟨c0, c1, c2, c3, c4, c5⟩ := cnQ Kx.out
  obtain ⟨z0, z1, z2, z3, z4, z5⟩ := cnQ Kz.out
  go_wp2_with fail
  clear c0 c1 c2 c3 c4 c5 z0 z1 z2 z3 z4 z5
  refine HEc.out.mono ?_
  rintro e w8 ⟨rfl, hb8⟩
  clear HEc HEq
  have Kx := hJQ ((hb8.block _ (hLQ Kx.out)).trans Kx.out)
  have Kz := hJQ ((hb8.block _ (hLQ Kz.out)).trans Kz.out)
  have Iz := hJQ (iBQ Iz.out hb8)
  have Ky := hJQ ((hb8.block _ (hLQ Ky.out)).trans Ky.out)
  have Iy := hJQ (iBQ Iy.out hb8)
  have HB := hJQ (HB.out.trans (hb8.mono HB.out.size))
  clear hb8
  have HHd : Hid (Calls Tryz.prog 14 #[.agg #[.int .i64 zop, .int .i64 zn, .string zs, .slice zka zkn zkc, .slice zna zns.length znc, .slice za zl.length zcc]] w8 fun e w' => ∃ d, e = .returned (.tuple #[conV d, .int .i64 0])/\IsCon (fun b => w8.heap.size<=b) w' d/\pC d = y0/\Below w8.heap.size w8 w') := by
   have := head_normal (fun _ => True) (ConD.mk zop zn zs zk (.slice zna zns.length znc) zns (.slice za zl.length zcc) zl) w8 (HE.out.below HB.out) Iz.out (by rw [EZ.out]; exact HYF.out.2.2.2.1) (by rw [EZ.out]; exact HYF.out.2.1) (by rw [EZ.out]; exact HYF.out.1)
   rw [HZV.out, EZ.out] at this
   exact this
  obtain ⟨z0, z1, z2, z3, z4, z5⟩ := cnQ Kz.out
  go_wp2_with fail
  clear z0 z1 z2 z3 z4 z5
  refine HHd.out.mono ?_
  rintro e w10 ⟨dq, rfl, hdq, eq0, hb10⟩
  obtain ⟨qop, qn, qs, qk, qns, ql, qka, qkn, qkc, qna, qnc, qa, qcc, rfl, hqk, _⟩ := cSQ hdq
  have HQV := hJQ (cVQ (op := qop) (n := qn) (s := qs) (nv := .slice qna qns.length qnc) (lv := .slice qa ql.length qcc) (ns := qns) (l := ql) hqk)
  have EQ := hJQ eq0
  rw [HQV.out]
  clear hqk eq0 HHd
  have g1 := gAQ w10 (.cells #[.int .i64 0, .int .i64 0, .string ⟨#[]⟩, .slice none 0 0, .slice none 0 0, .slice none 0 0] 28)
  have kz := nHQ w10 (.cells #[.int .i64 0, .int .i64 0, .string ⟨#[]⟩, .slice none 0 0, .slice none 0 0, .slice none 0 0] 28)
  have hrow := gRQ (w10.alloc (.cells #[.int .i64 0, .int .i64 0, .string ⟨#[]⟩, .slice none 0 0, .slice none 0 0, .slice none 0 0] 28)) w10.heap.size #[.int .i64 qop, .int .i64 qn, .string qs, .slice qka qkn qkc, .slice qna qns.length qnc, .slice qa ql.length qcc]
  have hsz : (w10.alloc (.cells #[.int .i64 0, .int .i64 0, .string ⟨#[]⟩, .slice none 0 0, .slice none 0 0, .slice none 0 0] 28)).heap.size = w10.heap.size + 1 := by simp
  have hsA := hb10.size
  have hbS : Below w8.heap.size w8 (((w10).alloc (.cells #[.int .i64 0, .int .i64 0, .string ⟨#[]⟩, .slice none 0 0, .slice none 0 0, .slice none 0 0] 28)).setRow w10.heap.size #[.int .i64 qop, .int .i64 qn, .string qs, .slice qka qkn qkc, .slice qna qns.length qnc, .slice qa ql.length qcc]) := (hb10.trans (gUQ g1 (by omega) (by nofun))).trans (gUQ hrow (by omega) (fun q hq => by have e2 : w10.heap.size = q := oJQ hq; omega))
  have Kq := hJQ (setRow_heap (w10.alloc (.cells #[.int .i64 0, .int .i64 0, .string ⟨#[]⟩, .slice none 0 0, .slice none 0 0, .slice none 0 0] 28)) w10.heap.size _ #[.int .i64 qop, .int .i64 qn, .string qs, .slice qka qkn qkc, .slice qna qns.length qnc, .slice qa ql.length qcc] _ _ kz)
  have Iq := hJQ (((hdq.lt.grown g1 (by nofun)).grown hrow (fun q hq hp => by have e2 : w10.heap.size = q := oJQ hq; have := hp.2; omega)).mono (Q := (fun _ => True)) (fun _ _ _ => trivial))
  have Kx := hJQ ((hbS.block _ (hLQ Kx.out)).trans Kx.out)
  have Kz := hJQ ((hbS.block _ (hLQ Kz.out)).trans Kz.out)
  have Iz := hJQ (iBQ Iz.out hbS)
  have Ky := hJQ ((hbS.block _ (hLQ Ky.out)).trans Ky.out)
  have Iy := hJQ (iBQ Iy.out hbS)
  have HB := hJQ (HB.out.trans (hbS.mono HB.out.size))
  clear g1 hrow hsz hsA hbS hdq hb10
  go_upto_region 11 with (refine wpList_store_row rfl 28 _ _ rfl w10.heap.size _ rfl rfl 28 _ kz cIQ rfl (all_one _ rfl) ?_)
  clear kz
  generalize (w10.alloc (.cells #[.int .i64 0, .int .i64 0, .string ⟨#[]⟩, .slice none 0 0, .slice none 0 0, .slice none 0 0] 28)).setRow w10.heap.size #[.int .i64 qop, .int .i64 qn, .string qs, .slice qka qkn qkc, .slice qna qns.length qnc, .slice qa ql.length qcc] = Vq at *
  have HS1 : Hid (∀ U, Below Vq.heap.size Vq U->Calls Tryz.prog 13 #[.agg #[.int .i64 zop, .int .i64 zn, .string zs, .slice zka zkn zkc, .slice zna zns.length znc, .slice za zl.length zcc], .agg #[.int .i64 yop, .int .i64 yn, .string ys, .slice yka ykn ykc, .slice yna yns.length ync, .slice ya yl.length ycc]] U fun e w' => e = .returned (.bool true)/\Below U.heap.size U w') := fun U hU => by
   have := same_yes (ConD.mk zop zn zs zk (.slice zna zns.length znc) zns (.slice za zl.length zcc) zl) (ConD.mk yop yn ys yk (.slice yna yns.length ync) yns (.slice ya yl.length ycc) yl) U (iBQ Iz.out hU) (iBQ Iy.out hU) (by rw [EZ.out, EY.out])
   rw [HZV.out, HYV.out] at this
   exact this
  have HS2 : Hid (∀ U, Below Vq.heap.size Vq U->Calls Tryz.prog 13 #[.agg #[.int .i64 qop, .int .i64 qn, .string qs, .slice qka qkn qkc, .slice qna qns.length qnc, .slice qa ql.length qcc], .agg #[.int .i64 zop, .int .i64 zn, .string zs, .slice zka zkn zkc, .slice zna zns.length znc, .slice za zl.length zcc]] U fun e w' => e = .returned (.bool true)/\Below U.heap.size U w') := fun U hU => by
   have := same_yes (ConD.mk qop qn qs qk (.slice qna qns.length qnc) qns (.slice qa ql.length qcc) ql) (ConD.mk zop zn zs zk (.slice zna zns.length znc) zns (.slice za zl.length zcc) zl) U (iBQ Iq.out hU) (iBQ Iz.out hU) (by rw [EQ.out, EZ.out])
   rw [HQV.out, HZV.out] at this
   exact this
  have HS3 : Hid (∀ U, Below Vq.heap.size Vq U->Calls Tryz.prog 13 #[.agg #[.int .i64 xop, .int .i64 xn, .string xs, .slice xka xkn xkc, .slice xna xns.length xnc, .slice xa xl.length xcc], .agg #[.int .i64 zop, .int .i64 zn, .string zs, .slice zka zkn zkc, .slice zna zns.length znc, .slice za zl.length zcc]] U fun e w' => e = .returned (.bool nb)/\Below U.heap.size U w') := fun U hU => by
   have := HSm.out (ConD.mk zop zn zs zk (.slice zna zns.length znc) zns (.slice za zl.length zcc) zl) U (HB.out.trans (hU.mono HB.out.size)) (iBQ Iz.out hU) EZ.out
   rw [HZV.out] at this
   exact this
  have HS4 : Hid (∀ U, Below Vq.heap.size Vq U->Calls Tryz.prog 9 #[.agg #[.int .i64 xop, .int .i64 xn, .string xs, .slice xka xkn xkc, .slice xna xns.length xnc, .slice xa xl.length xcc]] U fun e w' => e = .returned (.bool nb)/\Below U.heap.size U w') := fun U hU => HIs.out U (HB.out.trans (hU.mono HB.out.size))
  have kd : ∀ (q : Nat) (o : Obj), Vq.heap[q]? = some o->Vq.drew.heap[q]? = some o := fun _ _ h => h
  have hbD : Below Vq.heap.size Vq Vq.drew := (Below.refl _ _).drew
  clear HIs HSm HE HYF EZ EY EQ HZV HYV HQV Iz Iy Iq
  have S0 : (fun w9 => w9.cell? ⟨w.heap.size, 0, none⟩ = some (.int .i64 xop)/\w9.cell? ⟨w.heap.size, 1, none⟩ = some (.int .i64 xn)/\w9.cell? ⟨w.heap.size, 2, none⟩ = some (.string xs)/\w9.cell? ⟨w.heap.size, 3, none⟩ = some (.slice xka xkn xkc)/\w9.cell? ⟨w.heap.size, 4, none⟩ = some (.slice xna xns.length xnc)/\w9.cell? ⟨w.heap.size, 5, none⟩ = some (.slice xa xl.length xcc)/\w9.cell? ⟨w4.heap.size, 0, none⟩ = some (.int .i64 zop)/\w9.cell? ⟨w4.heap.size, 1, none⟩ = some (.int .i64 zn)/\w9.cell? ⟨w4.heap.size, 2, none⟩ = some (.string zs)/\w9.cell? ⟨w4.heap.size, 3, none⟩ = some (.slice zka zkn zkc)/\w9.cell? ⟨w4.heap.size, 4, none⟩ = some (.slice zna zns.length znc)/\w9.cell? ⟨w4.heap.size, 5, none⟩ = some (.slice za zl.length zcc)/\w9.cell? ⟨w7.heap.size, 0, none⟩ = some (.int .i64 yop)/\w9.cell? ⟨w7.heap.size, 1, none⟩ = some (.int .i64 yn)/\w9.cell? ⟨w7.heap.size, 2, none⟩ = some (.string ys)/\w9.cell? ⟨w7.heap.size, 3, none⟩ = some (.slice yka ykn ykc)/\w9.cell? ⟨w7.heap.size, 4, none⟩ = some (.slice yna yns.length ync)/\w9.cell? ⟨w7.heap.size, 5, none⟩ = some (.slice ya yl.length ycc)/\w9.cell? ⟨w10.heap.size, 0, none⟩ = some (.int .i64 qop)/\w9.cell? ⟨w10.heap.size, 1, none⟩ = some (.int .i64 qn)/\w9.cell? ⟨w10.heap.size, 2, none⟩ = some (.string qs)/\w9.cell? ⟨w10.heap.size, 3, none⟩ = some (.slice qka qkn qkc)/\w9.cell? ⟨w10.heap.size, 4, none⟩ = some (.slice qna qns.length qnc)/\w9.cell? ⟨w10.heap.size, 5, none⟩ = some (.slice qa ql.length qcc)) Vq.drew := ⟨(cnQ (kd _ _ Kx.out)).1, (cnQ (kd _ _ Kx.out)).2.1, (cnQ (kd _ _ Kx.out)).2.2.1, (cnQ (kd _ _ Kx.out)).2.2.2.1, (cnQ (kd _ _ Kx.out)).2.2.2.2.1, (cnQ (kd _ _ Kx.out)).2.2.2.2.2, (cnQ (kd _ _ Kz.out)).1, (cnQ (kd _ _ Kz.out)).2.1, (cnQ (kd _ _ Kz.out)).2.2.1, (cnQ (kd _ _ Kz.out)).2.2.2.1, (cnQ (kd _ _ Kz.out)).2.2.2.2.1, (cnQ (kd _ _ Kz.out)).2.2.2.2.2, (cnQ (kd _ _ Ky.out)).1, (cnQ (kd _ _ Ky.out)).2.1, (cnQ (kd _ _ Ky.out)).2.2.1, (cnQ (kd _ _ Ky.out)).2.2.2.1, (cnQ (kd _ _ Ky.out)).2.2.2.2.1, (cnQ (kd _ _ Ky.out)).2.2.2.2.2, (cnQ (kd _ _ Kq.out)).1, (cnQ (kd _ _ Kq.out)).2.1, (cnQ (kd _ _ Kq.out)).2.2.1, (cnQ (kd _ _ Kq.out)).2.2.2.1, (cnQ (kd _ _ Kq.out)).2.2.2.2.1, (cnQ (kd _ _ Kq.out)).2.2.2.2.2⟩
  refine wp_region_held_drew (S := (fun w9 => w9.cell? ⟨w.heap.size, 0, none⟩ = some (.int .i64 xop)/\w9.cell? ⟨w.heap.size, 1, none⟩ = some (.int .i64 xn)/\w9.cell? ⟨w.heap.size, 2, none⟩ = some (.string xs)/\w9.cell? ⟨w.heap.size, 3, none⟩ = some (.slice xka xkn xkc)/\w9.cell? ⟨w.heap.size, 4, none⟩ = some (.slice xna xns.length xnc)/\w9.cell? ⟨w.heap.size, 5, none⟩ = some (.slice xa xl.length xcc)/\w9.cell? ⟨w4.heap.size, 0, none⟩ = some (.int .i64 zop)/\w9.cell? ⟨w4.heap.size, 1, none⟩ = some (.int .i64 zn)/\w9.cell? ⟨w4.heap.size, 2, none⟩ = some (.string zs)/\w9.cell? ⟨w4.heap.size, 3, none⟩ = some (.slice zka zkn zkc)/\w9.cell? ⟨w4.heap.size, 4, none⟩ = some (.slice zna zns.length znc)/\w9.cell? ⟨w4.heap.size, 5, none⟩ = some (.slice za zl.length zcc)/\w9.cell? ⟨w7.heap.size, 0, none⟩ = some (.int .i64 yop)/\w9.cell? ⟨w7.heap.size, 1, none⟩ = some (.int .i64 yn)/\w9.cell? ⟨w7.heap.size, 2, none⟩ = some (.string ys)/\w9.cell? ⟨w7.heap.size, 3, none⟩ = some (.slice yka ykn ykc)/\w9.cell? ⟨w7.heap.size, 4, none⟩ = some (.slice yna yns.length ync)/\w9.cell? ⟨w7.heap.size, 5, none⟩ = some (.slice ya yl.length ycc)/\w9.cell? ⟨w10.heap.size, 0, none⟩ = some (.int .i64 qop)/\w9.cell? ⟨w10.heap.size, 1, none⟩ = some (.int .i64 qn)/\w9.cell? ⟨w10.heap.size, 2, none⟩ = some (.string qs)/\w9.cell? ⟨w10.heap.size, 3, none⟩ = some (.slice qka qkn qkc)/\w9.cell? ⟨w10.heap.size, 4, none⟩ = some (.slice qna qns.length qnc)/\w9.cell? ⟨w10.heap.size, 5, none⟩ = some (.slice qa ql.length qcc))) (by kernel_rfl) S0 (fun hHeld => ?_)
  refine tks (b := ?_) (by kernel_rfl) (fun _ _ _ _ _ h => h) S0 5 [0, 1, 2, 3, 4] (by kernel_rfl) ?_ ?_
  rotate_left
  ·iterate 5 (refine yc (v := ?_) rfl rfl (by rfl) (fun w9 hSw => ?_) ?_; rotate_left; (focus go_simp; try rfl); simp only [Act.put, List.setIfInBounds_toArray, List.set_cons_zero, List.set_cons_succ])
   exact rfl
  refine rd1 5 (by kernel_rfl) (by rfl) (fun K hK => ?_)
  go_simp
  go_at_call 13
  refine (HS1.out _ hbD).mono ?_
  rintro e v1 ⟨rfl, hb9⟩
  have hv1 := hbD.trans (hb9.mono hbD.size)
  clear hb9
  have S1 : (fun w9 => w9.cell? ⟨w.heap.size, 0, none⟩ = some (.int .i64 xop)/\w9.cell? ⟨w.heap.size, 1, none⟩ = some (.int .i64 xn)/\w9.cell? ⟨w.heap.size, 2, none⟩ = some (.string xs)/\w9.cell? ⟨w.heap.size, 3, none⟩ = some (.slice xka xkn xkc)/\w9.cell? ⟨w.heap.size, 4, none⟩ = some (.slice xna xns.length xnc)/\w9.cell? ⟨w.heap.size, 5, none⟩ = some (.slice xa xl.length xcc)/\w9.cell? ⟨w4.heap.size, 0, none⟩ = some (.int .i64 zop)/\w9.cell? ⟨w4.heap.size, 1, none⟩ = some (.int .i64 zn)/\w9.cell? ⟨w4.heap.size, 2, none⟩ = some (.string zs)/\w9.cell? ⟨w4.heap.size, 3, none⟩ = some (.slice zka zkn zkc)/\w9.cell? ⟨w4.heap.size, 4, none⟩ = some (.slice zna zns.length znc)/\w9.cell? ⟨w4.heap.size, 5, none⟩ = some (.slice za zl.length zcc)/\w9.cell? ⟨w7.heap.size, 0, none⟩ = some (.int .i64 yop)/\w9.cell? ⟨w7.heap.size, 1, none⟩ = some (.int .i64 yn)/\w9.cell? ⟨w7.heap.size, 2, none⟩ = some (.string ys)/\w9.cell? ⟨w7.heap.size, 3, none⟩ = some (.slice yka ykn ykc)/\w9.cell? ⟨w7.heap.size, 4, none⟩ = some (.slice yna yns.length ync)/\w9.cell? ⟨w7.heap.size, 5, none⟩ = some (.slice ya yl.length ycc)/\w9.cell? ⟨w10.heap.size, 0, none⟩ = some (.int .i64 qop)/\w9.cell? ⟨w10.heap.size, 1, none⟩ = some (.int .i64 qn)/\w9.cell? ⟨w10.heap.size, 2, none⟩ = some (.string qs)/\w9.cell? ⟨w10.heap.size, 3, none⟩ = some (.slice qka qkn qkc)/\w9.cell? ⟨w10.heap.size, 4, none⟩ = some (.slice qna qns.length qnc)/\w9.cell? ⟨w10.heap.size, 5, none⟩ = some (.slice qa ql.length qcc)) v1 := ⟨(cnQ ((hv1.block _ (hLQ Kx.out)).trans Kx.out)).1, (cnQ ((hv1.block _ (hLQ Kx.out)).trans Kx.out)).2.1, (cnQ ((hv1.block _ (hLQ Kx.out)).trans Kx.out)).2.2.1, (cnQ ((hv1.block _ (hLQ Kx.out)).trans Kx.out)).2.2.2.1, (cnQ ((hv1.block _ (hLQ Kx.out)).trans Kx.out)).2.2.2.2.1, (cnQ ((hv1.block _ (hLQ Kx.out)).trans Kx.out)).2.2.2.2.2, (cnQ ((hv1.block _ (hLQ Kz.out)).trans Kz.out)).1, (cnQ ((hv1.block _ (hLQ Kz.out)).trans Kz.out)).2.1, (cnQ ((hv1.block _ (hLQ Kz.out)).trans Kz.out)).2.2.1, (cnQ ((hv1.block _ (hLQ Kz.out)).trans Kz.out)).2.2.2.1, (cnQ ((hv1.block _ (hLQ Kz.out)).trans Kz.out)).2.2.2.2.1, (cnQ ((hv1.block _ (hLQ Kz.out)).trans Kz.out)).2.2.2.2.2, (cnQ ((hv1.block _ (hLQ Ky.out)).trans Ky.out)).1, (cnQ ((hv1.block _ (hLQ Ky.out)).trans Ky.out)).2.1, (cnQ ((hv1.block _ (hLQ Ky.out)).trans Ky.out)).2.2.1, (cnQ ((hv1.block _ (hLQ Ky.out)).trans Ky.out)).2.2.2.1, (cnQ ((hv1.block _ (hLQ Ky.out)).trans Ky.out)).2.2.2.2.1, (cnQ ((hv1.block _ (hLQ Ky.out)).trans Ky.out)).2.2.2.2.2, (cnQ ((hv1.block _ (hLQ Kq.out)).trans Kq.out)).1, (cnQ ((hv1.block _ (hLQ Kq.out)).trans Kq.out)).2.1, (cnQ ((hv1.block _ (hLQ Kq.out)).trans Kq.out)).2.2.1, (cnQ ((hv1.block _ (hLQ Kq.out)).trans Kq.out)).2.2.2.1, (cnQ ((hv1.block _ (hLQ Kq.out)).trans Kq.out)).2.2.2.2.1, (cnQ ((hv1.block _ (hLQ Kq.out)).trans Kq.out)).2.2.2.2.2⟩
  refine hK.out _ _ S1 (fun _ => ?_)
  clear hK K
  refine tks (b := ?_) (by kernel_rfl) (fun _ _ _ _ _ h => h) S1 15 [6, 7, 8, 9, 10, 11, 12, 13, 14, 15, 16, 17, 18, 19, 20] (by kernel_rfl) ?_ ?_
  rotate_left
  ·iterate 15 (refine yc (v := ?_) rfl rfl (by rfl) (fun w9 hSw => ?_) ?_; rotate_left; (focus go_simp; try rfl); simp only [Act.put, List.setIfInBounds_toArray, List.set_cons_zero, List.set_cons_succ])
   exact rfl
  refine rd1 21 (by kernel_rfl) (by rfl) (fun K hK => ?_)
  go_simp
  go_at_call 13
  refine (HS2.out _ hv1).mono ?_
  rintro e v2 ⟨rfl, hb9⟩
  have hv2 := hv1.trans (hb9.mono hv1.size)
  clear hb9
  have S2 : (fun w9 => w9.cell? ⟨w.heap.size, 0, none⟩ = some (.int .i64 xop)/\w9.cell? ⟨w.heap.size, 1, none⟩ = some (.int .i64 xn)/\w9.cell? ⟨w.heap.size, 2, none⟩ = some (.string xs)/\w9.cell? ⟨w.heap.size, 3, none⟩ = some (.slice xka xkn xkc)/\w9.cell? ⟨w.heap.size, 4, none⟩ = some (.slice xna xns.length xnc)/\w9.cell? ⟨w.heap.size, 5, none⟩ = some (.slice xa xl.length xcc)/\w9.cell? ⟨w4.heap.size, 0, none⟩ = some (.int .i64 zop)/\w9.cell? ⟨w4.heap.size, 1, none⟩ = some (.int .i64 zn)/\w9.cell? ⟨w4.heap.size, 2, none⟩ = some (.string zs)/\w9.cell? ⟨w4.heap.size, 3, none⟩ = some (.slice zka zkn zkc)/\w9.cell? ⟨w4.heap.size, 4, none⟩ = some (.slice zna zns.length znc)/\w9.cell? ⟨w4.heap.size, 5, none⟩ = some (.slice za zl.length zcc)/\w9.cell? ⟨w7.heap.size, 0, none⟩ = some (.int .i64 yop)/\w9.cell? ⟨w7.heap.size, 1, none⟩ = some (.int .i64 yn)/\w9.cell? ⟨w7.heap.size, 2, none⟩ = some (.string ys)/\w9.cell? ⟨w7.heap.size, 3, none⟩ = some (.slice yka ykn ykc)/\w9.cell? ⟨w7.heap.size, 4, none⟩ = some (.slice yna yns.length ync)/\w9.cell? ⟨w7.heap.size, 5, none⟩ = some (.slice ya yl.length ycc)/\w9.cell? ⟨w10.heap.size, 0, none⟩ = some (.int .i64 qop)/\w9.cell? ⟨w10.heap.size, 1, none⟩ = some (.int .i64 qn)/\w9.cell? ⟨w10.heap.size, 2, none⟩ = some (.string qs)/\w9.cell? ⟨w10.heap.size, 3, none⟩ = some (.slice qka qkn qkc)/\w9.cell? ⟨w10.heap.size, 4, none⟩ = some (.slice qna qns.length qnc)/\w9.cell? ⟨w10.heap.size, 5, none⟩ = some (.slice qa ql.length qcc)) v2 := ⟨(cnQ ((hv2.block _ (hLQ Kx.out)).trans Kx.out)).1, (cnQ ((hv2.block _ (hLQ Kx.out)).trans Kx.out)).2.1, (cnQ ((hv2.block _ (hLQ Kx.out)).trans Kx.out)).2.2.1, (cnQ ((hv2.block _ (hLQ Kx.out)).trans Kx.out)).2.2.2.1, (cnQ ((hv2.block _ (hLQ Kx.out)).trans Kx.out)).2.2.2.2.1, (cnQ ((hv2.block _ (hLQ Kx.out)).trans Kx.out)).2.2.2.2.2, (cnQ ((hv2.block _ (hLQ Kz.out)).trans Kz.out)).1, (cnQ ((hv2.block _ (hLQ Kz.out)).trans Kz.out)).2.1, (cnQ ((hv2.block _ (hLQ Kz.out)).trans Kz.out)).2.2.1, (cnQ ((hv2.block _ (hLQ Kz.out)).trans Kz.out)).2.2.2.1, (cnQ ((hv2.block _ (hLQ Kz.out)).trans Kz.out)).2.2.2.2.1, (cnQ ((hv2.block _ (hLQ Kz.out)).trans Kz.out)).2.2.2.2.2, (cnQ ((hv2.block _ (hLQ Ky.out)).trans Ky.out)).1, (cnQ ((hv2.block _ (hLQ Ky.out)).trans Ky.out)).2.1, (cnQ ((hv2.block _ (hLQ Ky.out)).trans Ky.out)).2.2.1, (cnQ ((hv2.block _ (hLQ Ky.out)).trans Ky.out)).2.2.2.1, (cnQ ((hv2.block _ (hLQ Ky.out)).trans Ky.out)).2.2.2.2.1, (cnQ ((hv2.block _ (hLQ Ky.out)).trans Ky.out)).2.2.2.2.2, (cnQ ((hv2.block _ (hLQ Kq.out)).trans Kq.out)).1, (cnQ ((hv2.block _ (hLQ Kq.out)).trans Kq.out)).2.1, (cnQ ((hv2.block _ (hLQ Kq.out)).trans Kq.out)).2.2.1, (cnQ ((hv2.block _ (hLQ Kq.out)).trans Kq.out)).2.2.2.1, (cnQ ((hv2.block _ (hLQ Kq.out)).trans Kq.out)).2.2.2.2.1, (cnQ ((hv2.block _ (hLQ Kq.out)).trans Kq.out)).2.2.2.2.2⟩
  refine hK.out _ _ S2 (fun _ => ?_)
  clear hK K
  refine tks (b := ?_) (by kernel_rfl) (fun _ _ _ _ _ h => h) S2 5 [22, 23, 24, 26, 27] (by kernel_rfl) ?_ ?_
  rotate_left
  ·iterate 5 (refine yc (v := ?_) rfl rfl (by rfl) (fun w9 hSw => ?_) ?_; rotate_left; (focus go_simp; try rfl); simp only [Act.put, List.setIfInBounds_toArray, List.set_cons_zero, List.set_cons_succ])
   exact rfl
  refine rd1 25 (by kernel_rfl) (by rfl) (fun K hK => ?_)
  go_simp
  go_at_call 9
  refine (HS4.out _ hv2).mono ?_
  rintro e v3 ⟨rfl, hb9⟩
  have hv3 := hv2.trans (hb9.mono hv2.size)
  clear hb9
  have S3 : (fun w9 => w9.cell? ⟨w.heap.size, 0, none⟩ = some (.int .i64 xop)/\w9.cell? ⟨w.heap.size, 1, none⟩ = some (.int .i64 xn)/\w9.cell? ⟨w.heap.size, 2, none⟩ = some (.string xs)/\w9.cell? ⟨w.heap.size, 3, none⟩ = some (.slice xka xkn xkc)/\w9.cell? ⟨w.heap.size, 4, none⟩ = some (.slice xna xns.length xnc)/\w9.cell? ⟨w.heap.size, 5, none⟩ = some (.slice xa xl.length xcc)/\w9.cell? ⟨w4.heap.size, 0, none⟩ = some (.int .i64 zop)/\w9.cell? ⟨w4.heap.size, 1, none⟩ = some (.int .i64 zn)/\w9.cell? ⟨w4.heap.size, 2, none⟩ = some (.string zs)/\w9.cell? ⟨w4.heap.size, 3, none⟩ = some (.slice zka zkn zkc)/\w9.cell? ⟨w4.heap.size, 4, none⟩ = some (.slice zna zns.length znc)/\w9.cell? ⟨w4.heap.size, 5, none⟩ = some (.slice za zl.length zcc)/\w9.cell? ⟨w7.heap.size, 0, none⟩ = some (.int .i64 yop)/\w9.cell? ⟨w7.heap.size, 1, none⟩ = some (.int .i64 yn)/\w9.cell? ⟨w7.heap.size, 2, none⟩ = some (.string ys)/\w9.cell? ⟨w7.heap.size, 3, none⟩ = some (.slice yka ykn ykc)/\w9.cell? ⟨w7.heap.size, 4, none⟩ = some (.slice yna yns.length ync)/\w9.cell? ⟨w7.heap.size, 5, none⟩ = some (.slice ya yl.length ycc)/\w9.cell? ⟨w10.heap.size, 0, none⟩ = some (.int .i64 qop)/\w9.cell? ⟨w10.heap.size, 1, none⟩ = some (.int .i64 qn)/\w9.cell? ⟨w10.heap.size, 2, none⟩ = some (.string qs)/\w9.cell? ⟨w10.heap.size, 3, none⟩ = some (.slice qka qkn qkc)/\w9.cell? ⟨w10.heap.size, 4, none⟩ = some (.slice qna qns.length qnc)/\w9.cell? ⟨w10.heap.size, 5, none⟩ = some (.slice qa ql.length qcc)) v3 := ⟨(cnQ ((hv3.block _ (hLQ Kx.out)).trans Kx.out)).1, (cnQ ((hv3.block _ (hLQ Kx.out)).trans Kx.out)).2.1, (cnQ ((hv3.block _ (hLQ Kx.out)).trans Kx.out)).2.2.1, (cnQ ((hv3.block _ (hLQ Kx.out)).trans Kx.out)).2.2.2.1, (cnQ ((hv3.block _ (hLQ Kx.out)).trans Kx.out)).2.2.2.2.1, (cnQ ((hv3.block _ (hLQ Kx.out)).trans Kx.out)).2.2.2.2.2, (cnQ ((hv3.block _ (hLQ Kz.out)).trans Kz.out)).1, (cnQ ((hv3.block _ (hLQ Kz.out)).trans Kz.out)).2.1, (cnQ ((hv3.block _ (hLQ Kz.out)).trans Kz.out)).2.2.1, (cnQ ((hv3.block _ (hLQ Kz.out)).trans Kz.out)).2.2.2.1, (cnQ ((hv3.block _ (hLQ Kz.out)).trans Kz.out)).2.2.2.2.1, (cnQ ((hv3.block _ (hLQ Kz.out)).trans Kz.out)).2.2.2.2.2, (cnQ ((hv3.block _ (hLQ Ky.out)).trans Ky.out)).1, (cnQ ((hv3.block _ (hLQ Ky.out)).trans Ky.out)).2.1, (cnQ ((hv3.block _ (hLQ Ky.out)).trans Ky.out)).2.2.1, (cnQ ((hv3.block _ (hLQ Ky.out)).trans Ky.out)).2.2.2.1, (cnQ ((hv3.block _ (hLQ Ky.out)).trans Ky.out)).2.2.2.2.1, (cnQ ((hv3.block _ (hLQ Ky.out)).trans Ky.out)).2.2.2.2.2, (cnQ ((hv3.block _ (hLQ Kq.out)).trans Kq.out)).1, (cnQ ((hv3.block _ (hLQ Kq.out)).trans Kq.out)).2.1, (cnQ ((hv3.block _ (hLQ Kq.out)).trans Kq.out)).2.2.1, (cnQ ((hv3.block _ (hLQ Kq.out)).trans Kq.out)).2.2.2.1, (cnQ ((hv3.block _ (hLQ Kq.out)).trans Kq.out)).2.2.2.2.1, (cnQ ((hv3.block _ (hLQ Kq.out)).trans Kq.out)).2.2.2.2.2⟩
  refine hK.out _ _ S3 (fun _ => ?_)
  clear hK K
  refine rd1 28 (by kernel_rfl) (by rfl) (fun K hK => ?_)
  go_simp
  go_at_call 13
  refine (HS3.out _ hv3).mono ?_
  rintro e v4 ⟨rfl, hb9⟩
  have hv4 := hv3.trans (hb9.mono hv3.size)
  clear hb9
  have S4 : (fun w9 => w9.cell? ⟨w.heap.size, 0, none⟩ = some (.int .i64 xop)/\w9.cell? ⟨w.heap.size, 1, none⟩ = some (.int .i64 xn)/\w9.cell? ⟨w.heap.size, 2, none⟩ = some (.string xs)/\w9.cell? ⟨w.heap.size, 3, none⟩ = some (.slice xka xkn xkc)/\w9.cell? ⟨w.heap.size, 4, none⟩ = some (.slice xna xns.length xnc)/\w9.cell? ⟨w.heap.size, 5, none⟩ = some (.slice xa xl.length xcc)/\w9.cell? ⟨w4.heap.size, 0, none⟩ = some (.int .i64 zop)/\w9.cell? ⟨w4.heap.size, 1, none⟩ = some (.int .i64 zn)/\w9.cell? ⟨w4.heap.size, 2, none⟩ = some (.string zs)/\w9.cell? ⟨w4.heap.size, 3, none⟩ = some (.slice zka zkn zkc)/\w9.cell? ⟨w4.heap.size, 4, none⟩ = some (.slice zna zns.length znc)/\w9.cell? ⟨w4.heap.size, 5, none⟩ = some (.slice za zl.length zcc)/\w9.cell? ⟨w7.heap.size, 0, none⟩ = some (.int .i64 yop)/\w9.cell? ⟨w7.heap.size, 1, none⟩ = some (.int .i64 yn)/\w9.cell? ⟨w7.heap.size, 2, none⟩ = some (.string ys)/\w9.cell? ⟨w7.heap.size, 3, none⟩ = some (.slice yka ykn ykc)/\w9.cell? ⟨w7.heap.size, 4, none⟩ = some (.slice yna yns.length ync)/\w9.cell? ⟨w7.heap.size, 5, none⟩ = some (.slice ya yl.length ycc)/\w9.cell? ⟨w10.heap.size, 0, none⟩ = some (.int .i64 qop)/\w9.cell? ⟨w10.heap.size, 1, none⟩ = some (.int .i64 qn)/\w9.cell? ⟨w10.heap.size, 2, none⟩ = some (.string qs)/\w9.cell? ⟨w10.heap.size, 3, none⟩ = some (.slice qka qkn qkc)/\w9.cell? ⟨w10.heap.size, 4, none⟩ = some (.slice qna qns.length qnc)/\w9.cell? ⟨w10.heap.size, 5, none⟩ = some (.slice qa ql.length qcc)) v4 := ⟨(cnQ ((hv4.block _ (hLQ Kx.out)).trans Kx.out)).1, (cnQ ((hv4.block _ (hLQ Kx.out)).trans Kx.out)).2.1, (cnQ ((hv4.block _ (hLQ Kx.out)).trans Kx.out)).2.2.1, (cnQ ((hv4.block _ (hLQ Kx.out)).trans Kx.out)).2.2.2.1, (cnQ ((hv4.block _ (hLQ Kx.out)).trans Kx.out)).2.2.2.2.1, (cnQ ((hv4.block _ (hLQ Kx.out)).trans Kx.out)).2.2.2.2.2, (cnQ ((hv4.block _ (hLQ Kz.out)).trans Kz.out)).1, (cnQ ((hv4.block _ (hLQ Kz.out)).trans Kz.out)).2.1, (cnQ ((hv4.block _ (hLQ Kz.out)).trans Kz.out)).2.2.1, (cnQ ((hv4.block _ (hLQ Kz.out)).trans Kz.out)).2.2.2.1, (cnQ ((hv4.block _ (hLQ Kz.out)).trans Kz.out)).2.2.2.2.1, (cnQ ((hv4.block _ (hLQ Kz.out)).trans Kz.out)).2.2.2.2.2, (cnQ ((hv4.block _ (hLQ Ky.out)).trans Ky.out)).1, (cnQ ((hv4.block _ (hLQ Ky.out)).trans Ky.out)).2.1, (cnQ ((hv4.block _ (hLQ Ky.out)).trans Ky.out)).2.2.1, (cnQ ((hv4.block _ (hLQ Ky.out)).trans Ky.out)).2.2.2.1, (cnQ ((hv4.block _ (hLQ Ky.out)).trans Ky.out)).2.2.2.2.1, (cnQ ((hv4.block _ (hLQ Ky.out)).trans Ky.out)).2.2.2.2.2, (cnQ ((hv4.block _ (hLQ Kq.out)).trans Kq.out)).1, (cnQ ((hv4.block _ (hLQ Kq.out)).trans Kq.out)).2.1, (cnQ ((hv4.block _ (hLQ Kq.out)).trans Kq.out)).2.2.1, (cnQ ((hv4.block _ (hLQ Kq.out)).trans Kq.out)).2.2.2.1, (cnQ ((hv4.block _ (hLQ Kq.out)).trans Kq.out)).2.2.2.2.1, (cnQ ((hv4.block _ (hLQ Kq.out)).trans Kq.out)).2.2.2.2.2⟩
  refine hK.out _ _ S4 (fun _ => ?_)
  clear hK K
  refine tks (b := ?_) (by kernel_rfl) (fun _ _ _ _ _ h => h) S4 3 [29, 30, 31] (by kernel_rfl) ?_ ?_
  rotate_left
  ·iterate 3 (refine yc (v := ?_) rfl rfl (by rfl) (fun w9 hSw => ?_) ?_; rotate_left; (focus go_simp; try rfl); simp only [Act.put, List.setIfInBounds_toArray, List.set_cons_zero, List.set_cons_succ])
   exact rfl
  refine wpAnyH_done (by kernel_rfl) ?_ _
  have HBF := HB.out.trans (hv4.mono HB.out.size)
  clear hHeld S0 S1 S2 S3 S4 kd hbD hv1 hv2 hv3 hv4 HS1 HS2 HS3 HS4 Kx Kz Ky Kq
  go_wp2_with fail
  go_ret
  exact ⟨rfl, HBF⟩
end Go.Proofs.YtkiffgdinmpljaaGreatDoor
