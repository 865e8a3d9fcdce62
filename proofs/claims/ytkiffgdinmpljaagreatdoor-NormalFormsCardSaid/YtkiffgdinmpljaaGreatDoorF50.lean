/- The law's walk: NormalForms. Printed by gen_forms.py, expanded by mac.py. -/
import Derived.Test.YtkiffgdinmpljaaGreatDoorF49
set_option linter.unusedVariables false
set_option linter.unusedSimpArgs false
namespace Go.Proofs.YtkiffgdinmpljaaGreatDoor
open Go Go.RowKit
set_option maxHeartbeats 8000000
set_option maxRecDepth 100000
theorem forms_walk (x : ConD) (w : World) (hE : EnvN w) (h : IsCon (fun _ => True) w x) :
 Calls Tryz.prog 3 #[conV x] w fun e w' => e = .returned (.bool true)/\Below w.heap.size w w' := by
 obtain ⟨op, n, s, k, nv, ns, lv, l⟩ := x
 obtain ⟨ka, kc, kn, hks⟩ := iKQ h.parts.kind
 obtain ⟨na, nc, rfl, _⟩ := rSQ h.parts.names
 obtain ⟨a, c, rfl, _⟩ := rSQ h.parts.row
 rw [cVQ hks]
 have hll : l.length<=9223372036854775807 := by have h1 := h.parts.llen; have : maxLen = 9223372036854775807 := (by decide); omega
 have hnn : ns.length<=9223372036854775807 := by have h1 := h.parts.nlen; have : maxLen = 9223372036854775807 := (by decide); omega
 have hb0 : Below w.heap.size w (w.alloc (.cells #[.int .i64 op, .int .i64 n, .string s, .slice ka kn kc, .slice na ns.length nc, .slice a l.length c] 28)) := (Below.refl _ _).alloc (Nat.le_refl _) _
 have gC := nHQ w (.cells #[.int .i64 op, .int .i64 n, .string s, .slice ka kn kc, .slice na ns.length nc, .slice a l.length c] 28)
 have hsz0 : (w.alloc (.cells #[.int .i64 op, .int .i64 n, .string s, .slice ka kn kc, .slice na ns.length nc, .slice a l.length c] 28)).heap.size = w.heap.size + 1 := by simp
 obtain ⟨c0, c1, c2, c3, c4, c5⟩ := cnQ gC
 have HP := hJQ (iBQ h hb0).parts
 have HC0 := hJQ (iBQ h hb0)
 have HPW := hJQ (cVQ (op := op) (n := n) (s := s) (nv := .slice na ns.length nc) (lv := .slice a l.length c) (ns := ns) (l := l) hks)
 have HEN := hJQ (enc_sh (op := op) (n := n) (s := s) (nv := .slice na ns.length nc) (lv := .slice a l.length c) (ns := ns) (l := l) hks)
 have HX := hJQ h
 have HE := hJQ hE
 have HAw := hJQ (awake_any _ (hE.below hb0))
 clear h hks HP HC0 hE
 go_enter Tryz.func3, Tryz.ntmps3
 go_wp2_with fail
 refine HAw.out.mono ?_
 rintro e w2 ⟨rfl, hb2⟩
 have hbw2 := hb0.trans (hb2.mono hb0.size)
 have k2 := (hb2.block _ (hLQ gC)).trans gC
 have g1 := gAQ w2 (.cells #[.int .i64 op, .int .i64 n, .string s, .slice ka kn kc, .slice na ns.length nc, .slice a l.length c] 28)
 have hbw3 := hbw2.trans (gUQ (B := w.heap.size) g1 hbw2.size (by nofun))
 have hrow : RowP (fun _ => True) (w2.alloc (.cells #[.int .i64 op, .int .i64 n, .string s, .slice ka kn kc, .slice na ns.length nc, .slice a l.length c] 28)) (.slice (some ⟨w2.heap.size, 0, none⟩) [(ConD.mk op n s k (.slice na ns.length nc) ns (.slice a l.length c) l)].length 1) [(ConD.mk op n s k (.slice na ns.length nc) ns (.slice a l.length c) l)].length (cCQ [(ConD.mk op n s k (.slice na ns.length nc) ns (.slice a l.length c) l)]) := by
  rw [one_enc, HEN.out]
  exact rHQ (nHQ w2 (.cells #[.int .i64 op, .int .i64 n, .string s, .slice ka kn kc, .slice na ns.length nc, .slice a l.length c] 28)) trivial _ rfl 1 1 (Nat.le_refl _)
 have HFt := hJQ (fits_any (fun _ => True) (ConD.mk op n s k (.slice na ns.length nc) ns (.slice a l.length c) l) _ (w2.alloc (.cells #[.int .i64 op, .int .i64 n, .string s, .slice ka kn kc, .slice na ns.length nc, .slice a l.length c] 28)) hrow (iBQ HX.out hbw3))
 have k3 := (g1.block _ (hLQ k2) (by nofun)).trans k2
 obtain ⟨d0, d1, d2, d3, d4, d5⟩ := cnQ k2
 have HK3 := hJQ k3
 have HB3 := hJQ hbw3
 clear HAw hb2 hbw2 k2 g1 hbw3 hrow k3 c0 c1 c2 c3 c4 c5 hb0 gC HEN
 go_wp2_with fail
 clear d0 d1 d2 d3 d4 d5
 generalize w2.alloc (.cells #[.int .i64 op, .int .i64 n, .string s, .slice ka kn kc, .slice na ns.length nc, .slice a l.length c] 28) = V2 at *
 refine HFt.out.mono ?_
 rintro e w3 ⟨bf, rfl, hb3, hbd⟩
 have hbw := HB3.out.trans (hb3.mono HB3.out.size)
 have k3 := (hb3.block _ (hLQ HK3.out)).trans HK3.out
 have HBD := hJQ hbd
 clear HFt hbd hb3 HK3 HB3
 cases bf
 ·go_wp2_with fail
  go_ret
  exact ⟨rfl, hbw⟩
 ·obtain ⟨hsz, hbn⟩ : sizeC (pC (ConD.mk op n s k (.slice na ns.length nc) ns (.slice a l.length c) l))<=60/\bndC (pC (ConD.mk op n s k (.slice na ns.length nc) ns (.slice a l.length c) l)) := HBD.out (by first | rfl | trivial)
  clear HBD
  have HNm := normal_any (fun _ => True) (ConD.mk op n s k (.slice na ns.length nc) ns (.slice a l.length c) l) w3 (HE.out.below hbw) (iBQ HX.out hbw) hbn (by omega)
  rw [HPW.out] at HNm
  have HNm := hJQ HNm
  have HIs : Hid (∀ U, Below w.heap.size w U->Calls Tryz.prog 9 #[(.agg #[.int .i64 op, .int .i64 n, .string s, .slice ka kn kc, .slice na ns.length nc, .slice a l.length c])] U fun e w' => e = .returned (.bool (valC (pC (ConD.mk op n s k (.slice na ns.length nc) ns (.slice a l.length c) l)) && normalC (pC (ConD.mk op n s k (.slice na ns.length nc) ns (.slice a l.length c) l))))/\Below U.heap.size U w') := fun U hU => by
   have := is_any (fun _ => True) (ConD.mk op n s k (.slice na ns.length nc) ns (.slice a l.length c) l) U (iBQ HX.out hU) hbn (HE.out.below hU) (by omega)
   rw [HPW.out] at this
   exact this
  have HRs : Hid (∀ U, Below w.heap.size w U->Calls Tryz.prog 10 #[(.agg #[.int .i64 op, .int .i64 n, .string s, .slice ka kn kc, .slice na ns.length nc, .slice a l.length c])] U fun e w' => e = .returned (.bool (valC (pC (ConD.mk op n s k (.slice na ns.length nc) ns (.slice a l.length c) l)) && normalC (pC (ConD.mk op n s k (.slice na ns.length nc) ns (.slice a l.length c) l))))/\Below U.heap.size U w') := fun U hU => by
   have := rIs_any (fun _ => True) (ConD.mk op n s k (.slice na ns.length nc) ns (.slice a l.length c) l) U (iBQ HX.out hU) hbn
   rw [HPW.out] at this
   exact this
  have HTm : Hid (∀ U, Below w.heap.size w U->Calls Tryz.prog 11 #[(.agg #[.int .i64 op, .int .i64 n, .string s, .slice ka kn kc, .slice na ns.length nc, .slice a l.length c])] U (RTameOk (fun _ => True) (pC (ConD.mk op n s k (.slice na ns.length nc) ns (.slice a l.length c) l)) U)) := fun U hU => by
   have := rtame_any (fun _ => True) (ConD.mk op n s k (.slice na ns.length nc) ns (.slice a l.length c) l) U (fun _ _ => trivial) (iBQ HX.out hU) hbn
   rw [HPW.out] at this
   exact this
  have HVl : Hid (∀ U, Below w.heap.size w U->Calls Tryz.prog 12 #[(.agg #[.int .i64 op, .int .i64 n, .string s, .slice ka kn kc, .slice na ns.length nc, .slice a l.length c])] U fun e w' => e = .returned (.bool (valC (pC (ConD.mk op n s k (.slice na ns.length nc) ns (.slice a l.length c) l))))/\Below U.heap.size U w') := fun U hU => by
   have := rvalid_any (fun _ => True) (ConD.mk op n s k (.slice na ns.length nc) ns (.slice a l.length c) l) U (iBQ HX.out hU) hbn
   rw [HPW.out] at this
   exact this
  clear hsz hbn HX HE HPW
  generalize pC (ConD.mk op n s k (.slice na ns.length nc) ns (.slice a l.length c) l) = px at *
  generalize hbb : (valC px && normalC px) = bb at *
  clear hbb
  obtain ⟨c0, c1, c2, c3, c4, c5⟩ := cnQ k3
  go_wp2_with fail
  clear c0 c1 c2 c3 c4 c5
  refine HNm.out.mono ?_
  rintro e w4 ⟨dn, er, rfl, hdn, hb4, hn1, hn2, hn3⟩
  obtain ⟨zop, zn, zs, zk, zns, zl, zka, zkn, zkc, zna, znc, za, zcc, rfl, hzk, _⟩ := cSQ hdn
  have HZV := hJQ (cVQ (op := zop) (n := zn) (s := zs) (nv := .slice zna zns.length znc) (lv := .slice za zl.length zcc) (ns := zns) (l := zl) hzk)
  rw [HZV.out]
  have g1 := gAQ w4 (.cells #[.int .i64 zop, .int .i64 zn, .string zs, .slice zka zkn zkc, .slice zna zns.length znc, .slice za zl.length zcc] 28)
  have hb5 := hb4.trans (gUQ (B := w3.heap.size) g1 hb4.size (by nofun))
  have hbw5 := hbw.trans (hb5.mono hbw.size)
  have k5 := (hb5.block _ (hLQ k3)).trans k3
  have kz := nHQ w4 (.cells #[.int .i64 zop, .int .i64 zn, .string zs, .slice zka zkn zkc, .slice zna zns.length znc, .slice za zl.length zcc] 28)
  have iz := (hdn.mono (Q := (fun _ => True)) (fun _ _ _ => trivial)).grown g1 (by nofun)
  have HK5 := hJQ k5
  have HKZ := hJQ kz
  have HIZ := hJQ iz
  have HBw5 := hJQ hbw5
  have HN1 := hJQ hn1
  have HN2 := hJQ hn2
  have HN3 := hJQ hn3
  clear g1 hb5 hbw5 k5 kz iz hn1 hn2 hn3 hdn hzk hb4 HNm k3 hbw
  go_upto_region 6 with fail
  generalize w4.alloc (.cells #[.int .i64 zop, .int .i64 zn, .string zs, .slice zka zkn zkc, .slice zna zns.length znc, .slice za zl.length zcc] 28) = V5 at *
  have kd : V5.drew.heap[w.heap.size]? = _ := HK5.out
  have S0 : (fun w9 => w9.cell? ⟨w.heap.size, 0, none⟩ = some (.int .i64 op)/\w9.cell? ⟨w.heap.size, 1, none⟩ = some (.int .i64 n)/\w9.cell? ⟨w.heap.size, 2, none⟩ = some (.string s)/\w9.cell? ⟨w.heap.size, 3, none⟩ = some (.slice ka kn kc)/\w9.cell? ⟨w.heap.size, 4, none⟩ = some (.slice na ns.length nc)/\w9.cell? ⟨w.heap.size, 5, none⟩ = some (.slice a l.length c)) V5.drew := cnQ kd
  have hbd5 : Below V5.heap.size V5 V5.drew := (Below.refl _ _).drew
  have hbw5 := HBw5.out
  refine wp_region_held_drew (S := (fun w9 => w9.cell? ⟨w.heap.size, 0, none⟩ = some (.int .i64 op)/\w9.cell? ⟨w.heap.size, 1, none⟩ = some (.int .i64 n)/\w9.cell? ⟨w.heap.size, 2, none⟩ = some (.string s)/\w9.cell? ⟨w.heap.size, 3, none⟩ = some (.slice ka kn kc)/\w9.cell? ⟨w.heap.size, 4, none⟩ = some (.slice na ns.length nc)/\w9.cell? ⟨w.heap.size, 5, none⟩ = some (.slice a l.length c))) (by kernel_rfl) S0 (fun hHeld => ?_)
  refine tks (b := ?_) (by kernel_rfl) (fun _ _ _ _ _ h => h) S0 2 [0, 2] (by kernel_rfl) ?_ ?_
  rotate_left
  ·iterate 2 (refine yc (v := ?_) rfl rfl (by rfl) (fun w9 hSw => ?_) ?_; rotate_left; (focus go_simp; try rfl); simp only [Act.put, List.setIfInBounds_toArray, List.set_cons_zero, List.set_cons_succ])
   exact rfl
  refine rd1 1 (by kernel_rfl) (by rfl) (fun K hK => ?_)
  go_simp
  go_at_call 9
  refine (HIs.out _ (hbw5.trans (hbd5.mono hbw5.size))).mono ?_
  rintro e w6 ⟨rfl, hb6⟩
  have hb6 := hbd5.trans (hb6.mono hbd5.size)
  have k6 := (hb6.block _ (hLQ HK5.out)).trans HK5.out
  have S6 : (fun w9 => w9.cell? ⟨w.heap.size, 0, none⟩ = some (.int .i64 op)/\w9.cell? ⟨w.heap.size, 1, none⟩ = some (.int .i64 n)/\w9.cell? ⟨w.heap.size, 2, none⟩ = some (.string s)/\w9.cell? ⟨w.heap.size, 3, none⟩ = some (.slice ka kn kc)/\w9.cell? ⟨w.heap.size, 4, none⟩ = some (.slice na ns.length nc)/\w9.cell? ⟨w.heap.size, 5, none⟩ = some (.slice a l.length c)) w6 := cnQ k6
  refine hK.out _ _ S6 (fun _ => ?_)
  clear hK K
  refine rd1 3 (by kernel_rfl) (by rfl) (fun K hK => ?_)
  go_simp
  go_at_call 10
  refine (HRs.out _ (hbw5.trans (hb6.mono hbw5.size))).mono ?_
  rintro e w7 ⟨rfl, hb7⟩
  have hb7 := hb6.trans (hb7.mono hb6.size)
  have k7 := (hb7.block _ (hLQ HK5.out)).trans HK5.out
  have kz7 := (hb7.block _ (hLQ HKZ.out)).trans HKZ.out
  have iz7 := iBQ HIZ.out hb7
  have hbw7 := hbw5.trans (hb7.mono hbw5.size)
  have S7 : (fun w9 => w9.cell? ⟨w.heap.size, 0, none⟩ = some (.int .i64 op)/\w9.cell? ⟨w.heap.size, 1, none⟩ = some (.int .i64 n)/\w9.cell? ⟨w.heap.size, 2, none⟩ = some (.string s)/\w9.cell? ⟨w.heap.size, 3, none⟩ = some (.slice ka kn kc)/\w9.cell? ⟨w.heap.size, 4, none⟩ = some (.slice na ns.length nc)/\w9.cell? ⟨w.heap.size, 5, none⟩ = some (.slice a l.length c)) w7 := cnQ k7
  refine hK.out _ _ S7 (fun _ => ?_)
  clear hK K
  refine rd1 4 (by kernel_rfl) (by rfl) (fun K hK => ?_)
  go_simp
  refine hK.out _ _ S7 (fun _ => ?_)
  clear hK K
  refine wpAnyH_done (by kernel_rfl) ?_ _
  have HKZ7 := hJQ kz7
  have HIZ7 := hJQ iz7
  have HBw7 := hJQ hbw7
  have HK7 := hJQ k7
  have HTm7 := hJQ (HTm.out w7 hbw7)
  clear hHeld S0 S6 S7 kd hbd5 hb6 k6 hb7 kz7 iz7 HK5 HKZ HIZ HBw5 hbw5 hbw7 HIs HRs HTm
  obtain ⟨c0, c1, c2, c3, c4, c5⟩ := cnQ k7
  clear k7
  go_wp2_with fail
  clear c0 c1 c2 c3 c4 c5
  refine HTm7.out.mono ?_
  rintro e w8 ⟨dt, bt, rfl, hdt, hb8, ht1, ht2, ht3⟩
  obtain ⟨yop, yn, ys, yk, yns, yl, yka, ykn, ykc, yna, ync, ya, ycc, rfl, hyk, _⟩ := cSQ hdt
  have HYV := hJQ (cVQ (op := yop) (n := yn) (s := ys) (nv := .slice yna yns.length ync) (lv := .slice ya yl.length ycc) (ns := yns) (l := yl) hyk)
  rw [HYV.out]
  have g1 := gAQ w8 (.cells #[.int .i64 yop, .int .i64 yn, .string ys, .slice yka ykn ykc, .slice yna yns.length ync, .slice ya yl.length ycc] 28)
  have hb9 := hb8.trans (gUQ (B := w7.heap.size) g1 hb8.size (by nofun))
  have hbw9 := HBw7.out.trans (hb9.mono HBw7.out.size)
  have k9 := (hb9.block _ (hLQ HK7.out)).trans HK7.out
  have kz9 := (hb9.block _ (hLQ HKZ7.out)).trans HKZ7.out
  have iz9 := iBQ HIZ7.out hb9
  have ky9 := nHQ w8 (.cells #[.int .i64 yop, .int .i64 yn, .string ys, .slice yka ykn ykc, .slice yna yns.length ync, .slice ya yl.length ycc] 28)
  have iy9 := hdt.grown g1 (by nofun)
  have HVl9 := hJQ (HVl.out _ hbw9)
  have HKZ9 := hJQ kz9
  have HIZ9 := hJQ iz9
  have HKY9 := hJQ ky9
  have HIY9 := hJQ iy9
  have HBw9 := hJQ hbw9
  have HT1 := hJQ ht1
  have HT2 := hJQ ht2
  have HT3 := hJQ ht3
  have HK9 := hJQ k9
  clear g1 hb9 hbw9 kz9 iz9 ky9 iy9 ht1 ht2 ht3 hdt hyk hb8 HTm7 HK7 HKZ7 HIZ7 HBw7 HVl
  go_upto_region 9 with fail
  generalize w8.alloc (.cells #[.int .i64 yop, .int .i64 yn, .string ys, .slice yka ykn ykc, .slice yna yns.length ync, .slice ya yl.length ycc] 28) = V9 at *
  obtain ⟨c0, c1, c2, c3, c4, c5⟩ := cnQ k9
  clear k9
  go_wp2_with fail
  clear c0 c1 c2 c3 c4 c5
  refine HVl9.out.mono ?_
  rintro e v1 ⟨rfl, hbv1⟩
  have hbz := HBw9.out.trans (hbv1.mono HBw9.out.size)
  have kz := (hbv1.block _ (hLQ HKZ9.out)).trans HKZ9.out
  have ky := (hbv1.block _ (hLQ HKY9.out)).trans HKY9.out
  have HIZv := hJQ (iBQ HIZ9.out hbv1)
  have HIYv := hJQ (iBQ HIY9.out hbv1)
  obtain ⟨z0, z1, z2, z3, z4, z5⟩ := cnQ kz
  obtain ⟨y0, y1, y2, y3, y4, y5⟩ := cnQ ky
  clear HVl9 hbv1 HKZ9 HKY9 HIZ9 HIY9 HBw9 kz ky
  obtain ⟨vb, hvb⟩ : ∃ b, valC px = b := ⟨_, rfl⟩
  rw [hvb]
  have HVB := hJQ hvb
  clear hvb
  cases vb
  ·obtain ⟨e1, rfl⟩ := HN1.out HVB.out
   have e1 : zop = 0 := e1
   subst e1
   clear HT1 HT2 HT3 HN1 HN2 HN3 HZV HYV HIZv HIYv
   go_wp2_with fail
   go_ret
   exact ⟨rfl, hbz⟩
  ·cases hq : tameN px with
   | none =>
     obtain ⟨e1, rfl⟩ := HN2.out HVB.out hq
     have e1 : zop = 0 := e1
     subst e1
     obtain rfl := HT2.out HVB.out hq
     clear HT1 HT2 HT3 HN1 HN2 HN3 HZV HYV HIZv HIYv hq
     go_wp2_with fail
     go_ret
     exact ⟨rfl, hbz⟩
   | some q =>
     obtain ⟨y, m⟩ := q
     obtain ⟨e1, rfl⟩ := HN3.out HVB.out y m hq
     obtain ⟨rfl, e2⟩ := HT3.out HVB.out y m hq
     have HSm := rsame_any (ConD.mk zop zn zs zk (.slice zna zns.length znc) zns (.slice za zl.length zcc) zl) (ConD.mk yop yn ys yk (.slice yna yns.length ync) yns (.slice ya yl.length ycc) yl) v1 HIZv.out HIYv.out (by rw [e1, e2])
     rw [HZV.out, HYV.out] at HSm
     have HSm := hJQ HSm
     clear HT1 HT2 HT3 HN1 HN2 HN3 HZV HYV HIZv HIYv hq e1 e2
     go_wp2_with fail
     refine HSm.out.mono ?_
     rintro e v2 ⟨rfl, hbv2⟩
     have hbz2 := hbz.trans (hbv2.mono hbz.size)
     clear HSm
     go_wp2_with fail
     go_ret
     exact ⟨rfl, hbz2⟩
end Go.Proofs.YtkiffgdinmpljaaGreatDoor
