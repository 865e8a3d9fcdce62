/- The reference's Unroll. Printed by gen_runroll.py, expanded by mac.py. -/
import Derived.Test.YtkiffgdinmpljaaGreatDoorF34
import Derived.Test.YtkiffgdinmpljaaGreatDoorF35
import Derived.Test.YtkiffgdinmpljaaGreatDoorF32
set_option linter.unusedVariables false
set_option linter.unusedSimpArgs false
namespace Go.Proofs.YtkiffgdinmpljaaGreatDoor
open Go Go.RowKit
set_option maxHeartbeats 8000000
set_option maxRecDepth 100000
theorem runroll_any (P : Nat->Prop) (x : ConD) (w : World) (h : IsCon P w x) (hb : bndC (pC x)) :
 Calls Tryz.prog 17 #[conV x] w (PairOk (fun _ => True) (unrollR (pC x)) w) := by
 have hxl := h.lt
 obtain ⟨xop, xn, xs, xk, xns, xl, xka, xkn, xkc, xna, xnc, xa, xcc, rfl, hxk, _⟩ := cSQ h
 have HXV := hJQ (cVQ (op := xop) (n := xn) (s := xs) (nv := .slice xna xns.length xnc) (lv := .slice xa xl.length xcc) (ns := xns) (l := xl) hxk)
 rw [HXV.out]
 obtain ⟨g1, kR, kB, hbW, hsW⟩ := two_box (nHQ w (.cells #[.int .i64 xop, .int .i64 xn, .string xs, .slice xka xkn xkc, .slice xna xns.length xnc, .slice xa xl.length xcc] 28))
 have HSW := hJQ hsW
 clear hsW
 have HVL : Hid (∀ U, Below w.heap.size w U->Calls Tryz.prog 12 #[.agg #[.int .i64 xop, .int .i64 xn, .string xs, .slice xka xkn xkc, .slice xna xns.length xnc, .slice xa xl.length xcc]] U fun e w' => e = .returned (.bool (valC (pC (ConD.mk xop xn xs xk (.slice xna xns.length xnc) xns (.slice xa xl.length xcc) xl))))/\Below U.heap.size U w') := fun U hU => by
  have := rvalid_any P (ConD.mk xop xn xs xk (.slice xna xns.length xnc) xns (.slice xa xl.length xcc) xl) U (iBQ h hU) hb
  rw [HXV.out] at this
  exact this
 have hx0 := hxl.mono (Q := (fun b => b ≠ w.heap.size/\b ≠ w.heap.size + 1)) (fun b hb _ => ⟨by have := hb.2; omega, by have := hb.2; omega⟩)
 have HNC : Hid (∀ U, Below w.heap.size w U->w.heap.size + 2<=U.heap.size->Calls Tryz.prog 11 #[.agg #[.int .i64 xop, .int .i64 xn, .string xs, .slice xka xkn xkc, .slice xna xns.length xnc, .slice xa xl.length xcc]] U (RTameOk (fun b => b ≠ w.heap.size/\b ≠ w.heap.size + 1) (pC (ConD.mk xop xn xs xk (.slice xna xns.length xnc) xns (.slice xa xl.length xcc) xl)) U)) := fun U hU hs => by
  have := rtame_any (fun b => b ≠ w.heap.size/\b ≠ w.heap.size + 1) (ConD.mk xop xn xs xk (.slice xna xns.length xnc) xns (.slice xa xl.length xcc) xl) U (fun b hb => ⟨by omega, by omega⟩) (iBQ hx0 hU) hb
  rw [HXV.out] at this
  exact this
 have HBX := hJQ hb
 obtain ⟨c0, c1, c2, c3, c4, c5⟩ := cnQ kB
 have HB0 := hJQ kB
 have HR0 := hJQ kR
 obtain ⟨Rr, hRr⟩ : ∃ r, unrollR (pC (ConD.mk xop xn xs xk (.slice xna xns.length xnc) xns (.slice xa xl.length xcc) xl)) = r := ⟨_, rfl⟩
 have HRR := hJQ hRr
 rw [hRr]
 clear h hb g1 kB kR hxk hRr HXV hx0 hxl
 generalize pC (ConD.mk xop xn xs xk (.slice xna xns.length xnc) xns (.slice xa xl.length xcc) xl) = TX at *
 obtain ⟨bv, hbv⟩ : ∃ b, valC TX = b := ⟨_, rfl⟩
 rw [hbv] at HVL
 have HBV := hJQ hbv
 clear hbv
 go_enter Tryz.func17, Tryz.ntmps17
 go_upto_region 1 with fail
 generalize ((w.alloc (.cells #[.int .i64 xop, .int .i64 xn, .string xs, .slice xka xkn xkc, .slice xna xns.length xnc, .slice xa xl.length xcc] 28)).alloc (.cells #[.int .i64 0, .int .i64 0, .string ⟨#[]⟩, .slice none 0 0, .slice none 0 0, .slice none 0 0] 28)) = W at *
 go_wp2_with fail
 refine (HVL.out _ hbW).mono ?_
 rintro e w1 ⟨rfl, hb1⟩
 have hbw1 := hbW.trans (hb1.mono hbW.size)
 have k1 := (hb1.block _ (hLQ HB0.out)).trans HB0.out
 have kR1 := (hb1.block _ (hLQ HR0.out)).trans HR0.out
 have HSW1 : Hid (w.heap.size + 2<=w1.heap.size) := by have := HSW.out; have := hb1.size; show _<=_; omega
 clear c0 c1 c2 c3 c4 c5 HVL hb1 HB0 HR0 hbW
 cases bv
 ·have HZR : Hid (Rr = (zeroN, 1)) := by show _ = _; rw [← HRR.out]; unfold unrollR; rw [if_neg (by rw [HBV.out]; decide)]
  obtain ⟨HRF, HBF⟩ := put_res hbw1 kR1 #[.int .i64 0, .int .i64 0, .string ⟨#[]⟩, .slice none 0 0, .slice none 0 0, .slice none 0 0]
  go_wp2_with (refine wpList_store_row rfl 28 _ _ rfl (w.heap.size + 1) _ rfl rfl 28 _ kR1 cIQ rfl (all_one _ rfl) ?_)
  exact bodyPost_ret (res2 rfl rfl rfl HRF.out) rfl (pair_zero HBF.out (HZR.out))
 ·obtain ⟨c0, c1, c2, c3, c4, c5⟩ := cnQ k1
  go_wp2_with fail
  refine (HNC.out _ hbw1 HSW1.out).mono ?_
  rintro e w2 ⟨dn, bt, rfl, hdn, hb2, hn1, hn2, hn3⟩
  obtain ⟨yop, yn, ys, yk, yns, yl, yka, ykn, ykc, yna, ync, ya, ycc, rfl, hyk, _⟩ := cSQ hdn
  have HYV := hJQ (cVQ (op := yop) (n := yn) (s := ys) (nv := .slice yna yns.length ync) (lv := .slice ya yl.length ycc) (ns := yns) (l := yl) hyk)
  rw [HYV.out]
  have hbw2 := hbw1.trans (hb2.mono hbw1.size)
  have kR2 := (hb2.block _ (hLQ kR1)).trans kR1
  have hs2 := hb2.size
  obtain ⟨hgY, kA, hrY, kY, hb23⟩ := fresh_put w2 #[.int .i64 yop, .int .i64 yn, .string ys, .slice yka ykn ykc, .slice yna yns.length ync, .slice ya yl.length ycc]
  have kR3 := (hb23.block _ (hLQ kR2)).trans kR2
  have hbw3 := hbw2.trans (hb23.mono hbw2.size)
  have HDY := hJQ (iBQ hdn hb23)
  have HUT : Hid ((bt = false/\Rr = (zeroN, 27)) ∨ (bt = true/\valC (pC (ConD.mk yop yn ys yk (.slice yna yns.length ync) yns (.slice ya yl.length ycc) yl)) = true/\bndC (pC (ConD.mk yop yn ys yk (.slice yna yns.length ync) yns (.slice ya yl.length ycc) yl))/\Rr = unrollN (pC (ConD.mk yop yn ys yk (.slice yna yns.length ync) yns (.slice ya yl.length ycc) yl)))) := by
   have hR := HRR.out.symm
   have hv := HBV.out
   unfold unrollR at hR
   rw [if_pos hv] at hR
   cases ht : tameN TX with
   | none => exact .inl ⟨hn2 hv ht, by rw [hR, ht]⟩
   | some ym =>
     obtain ⟨hb, hp⟩ := hn3 hv ym.1 ym.2 ht
     refine .inr ⟨hb, ?_, ?_, ?_⟩
     ·rw [hp]; exact tame_valid hv ht
     ·rw [hp]; exact norm_bnd deepF _ 10000 ym.1 ym.2 (val_iff.1 hv).2.2 HBX.out ht
     ·rw [hR, ht, hp]
  have HS1 : Hid (w.heap.size + 2<=((w2.alloc (.cells #[.int .i64 0, .int .i64 0, .string ⟨#[]⟩, .slice none 0 0, .slice none 0 0, .slice none 0 0] 28)).setRow w2.heap.size #[.int .i64 yop, .int .i64 yn, .string ys, .slice yka ykn ykc, .slice yna yns.length ync, .slice ya yl.length ycc]).heap.size) := by have := HSW1.out; have := hb23.size; show _<=_; omega
  clear hgY hrY hdn hn1 hn2 hn3 c0 c1 c2 c3 c4 c5 HNC hyk hbw2 hb2 hs2 hb23 k1 hbw1 kR1 kR2
  go_upto_region 4 with (refine wpList_store_row rfl 28 _ _ rfl w2.heap.size _ rfl rfl 28 _ kA cIQ rfl (all_one _ rfl) ?_)
  clear kA
  generalize (w2.alloc (.cells #[.int .i64 0, .int .i64 0, .string ⟨#[]⟩, .slice none 0 0, .slice none 0 0, .slice none 0 0] 28)).setRow w2.heap.size #[.int .i64 yop, .int .i64 yn, .string ys, .slice yka ykn ykc, .slice yna yns.length ync, .slice ya yl.length ycc] = V1 at *
  rcases HUT.out with ⟨h0, hr0⟩ | ⟨h0, hvy, hby, hr0⟩
  ·subst h0
   have HZR := hJQ hr0
   clear hr0
   obtain ⟨HRF, HBF⟩ := put_res hbw3 kR3 #[.int .i64 0, .int .i64 0, .string ⟨#[]⟩, .slice none 0 0, .slice none 0 0, .slice none 0 0]
   go_wp2_with (refine wpList_store_row rfl 28 _ _ rfl (w.heap.size + 1) _ rfl rfl 28 _ kR3 cIQ rfl (all_one _ rfl) ?_)
   exact bodyPost_ret (res2 rfl rfl rfl HRF.out) rfl (pair_zero HBF.out (HZR.out))
  ·subst h0
   have HUR := hJQ hr0
   have hzy := (val_iff.1 hvy).1
   have hfy := (val_iff.1 hvy).2.2
   have HSP : Hid (Calls Tryz.prog 38 #[.agg #[.int .i64 yop, .int .i64 yn, .string ys, .slice yka ykn ykc, .slice yna yns.length ync, .slice ya yl.length ycc]] V1 (RSpOk (fun b => b ≠ w.heap.size/\b ≠ w.heap.size + 1) (pC (ConD.mk yop yn ys yk (.slice yna yns.length ync) yns (.slice ya yl.length ycc) yl)) V1)) := by
    have := rspine_any (ConD.mk yop yn ys yk (.slice yna yns.length ync) yns (.slice ya yl.length ycc) yl) (fun b => b ≠ w.heap.size/\b ≠ w.heap.size + 1) V1 (fun b hb => by have := HS1.out; exact ⟨by omega, by omega⟩) HDY.out hfy hzy
    rw [HYV.out] at this
    exact this
   have HSV := hJQ (And.intro (spine_val hvy) (spine_bnd hfy hby))
   have HFY := hJQ (spineN_len (sizeC (pC (ConD.mk yop yn ys yk (.slice yna yns.length ync) yns (.slice ya yl.length ycc) yl))) (pC (ConD.mk yop yn ys yk (.slice yna yns.length ync) yns (.slice ya yl.length ycc) yl)) [] hfy)
   have HZY := hJQ hzy
   have HBW1 := hJQ hbw3
   have HR3 := hJQ kR3
   clear hr0 hvy hby hzy hfy HUT HRR HYV HDY hbw3 kR3
   generalize pC (ConD.mk yop yn ys yk (.slice yna yns.length ync) yns (.slice ya yl.length ycc) yl) = TY at *
   obtain ⟨c0, c1, c2, c3, c4, c5⟩ := cnQ kY
   clear kY
   go_wp2_with fail
   refine HSP.out.mono ?_
   rintro e w3 ⟨dd, oa, oc, ds, rfl, hdd, hpd, hrl, hal, hpl, _, hb3⟩
   have hdz := hdd
   obtain ⟨zop, zn, zs, zk, zns, zl, zka, zkn, zkc, zna, znc, za, zcc, rfl, hzk, _⟩ := cSQ hdd
   rw [cVQ (op := zop) (n := zn) (s := zs) (nv := .slice zna zns.length znc) (lv := .slice za zl.length zcc) (ns := zns) (l := zl) hzk]
   obtain ⟨hgZ, kZ, hrow, kZ2, hb34⟩ := fresh_put w3 #[.int .i64 zop, .int .i64 zn, .string zs, .slice zka zkn zkc, .slice zna zns.length znc, .slice za zl.length zcc]
   have HS13 : Hid (V1.heap.size<=w3.heap.size) := hb3.size
   have hb4 := hb3.trans (hb34.mono HS13.out)
   have kRV := (hb4.block _ (hLQ HR3.out)).trans HR3.out
   have HRV := hJQ kRV
   have hbwv := HBW1.out.trans (hb4.mono HBW1.out.size)
   have HBWV := hJQ hbwv
   have HB34 := hJQ hb34
   have HZ2 := hJQ kZ2
   have HPD := hJQ hpd
   have HPL := hJQ hpl
   have HDZ := hJQ hdz
   have HL := hJQ (And.intro hrl hal)
   have HZK0 := hJQ hzk
   clear hgZ hrow kZ2 hb4 hb34 hdd hpd hrl hal hpl hb3 hzk hdz HSP
   go_upto_region 7 with (refine wpList_store_row rfl 28 _ _ rfl w3.heap.size _ rfl rfl 28 _ kZ cIQ rfl (all_one _ rfl) ?_)
   clear kZ c0 c1 c2 c3 c4 c5
   generalize ((w3.alloc (.cells #[.int .i64 0, .int .i64 0, .string ⟨#[]⟩, .slice none 0 0, .slice none 0 0, .slice none 0 0] 28)).setRow w3.heap.size #[.int .i64 zop, .int .i64 zn, .string zs, .slice zka zkn zkc, .slice zna zns.length znc, .slice za zl.length zcc]) = V at *
   obtain ⟨z0, z1, z2, z3, z4, z5⟩ := cnQ HZ2.out
   have HSV2 := HSV.out
   rw [← HPD.out, ← HPL.out] at HSV2
   have HSV3 := hJQ HSV2
   clear HSV2 HSV
   by_cases hf : zop = 13
   ·subst hf
    have HOP : Hid ((spineC TY).1.op = 13) := by show _ = _; rw [← HPD.out, pMQ]; rfl
    have HSTP := HSV3.out
    obtain ⟨q, rfl⟩ : ∃ q, zl = [q] := one_part (k := pK zk) (by have := (val_iff.1 HSTP.1.1).2.2; rw [pMQ] at this; exact this) rfl
    have hqr := part_0 (x := q) (l := []) HDZ.out.parts.row
    have hqc := HDZ.out.parts.all q (by simp)
    obtain ⟨qop, qn, qs, qk, qns, ql, qka, qkn, qkc, qna, qnc, qa, qcc, rfl, hqk, _⟩ := cSQ hqc
    obtain ⟨b, off, rfl, ⟨hPb, hbl⟩, q0, q1, q2, q3, q4, q5⟩ := hqr
    rw [show (ConD.mk qop qn qs qk (.slice qna qns.length qnc) qns (.slice qa ql.length qcc) ql).k.v = _ from hqk] at q3
    have HQC : Hid (w3.cell? ⟨b, off, none⟩ = some (.int .i64 qop)/\w3.cell? ⟨b, off + 1, none⟩ = some (.int .i64 qn)/\w3.cell? ⟨b, off + 2, none⟩ = some (.string qs)/\w3.cell? ⟨b, off + 3, none⟩ = some (.slice qka qkn qkc)/\w3.cell? ⟨b, off + 4, none⟩ = some (.slice qna qns.length qnc)/\w3.cell? ⟨b, off + 5, none⟩ = some (.slice qa ql.length qcc)) := ⟨q0, q1, q2, q3, q4, q5⟩
    have HZP : Hid (pC (ConD.mk 13 zn zs zk (.slice zna zns.length znc) zns (.slice (some ⟨b, off, none⟩) [(ConD.mk qop qn qs qk (.slice qna qns.length qnc) qns (.slice qa ql.length qcc) ql)].length zcc) [(ConD.mk qop qn qs qk (.slice qna qns.length qnc) qns (.slice qa ql.length qcc) ql)]) = .mk 13 zn zs (pK zk) zns [pC (ConD.mk qop qn qs qk (.slice qna qns.length qnc) qns (.slice qa ql.length qcc) ql)]) := pMQ ..
    have hvz := HSTP.1.1
    have hbz := HSTP.2.1
    rw [HZP.out] at HSTP
    have hvq := (val_part HSTP.1.1 (x := pC (ConD.mk qop qn qs qk (.slice qna qns.length qnc) qns (.slice qa ql.length qcc) ql)) (by simp)).1
    have hbq := bnd_part HSTP.2.1 (x := pC (ConD.mk qop qn qs qk (.slice qna qns.length qnc) qns (.slice qa ql.length qcc) ql)) (by simp)
    have HDV := hJQ (And.intro HSTP.1.2 HSTP.2.2)
    have hbT := bnd_subst [pC (ConD.mk 13 zn zs zk (.slice zna zns.length znc) zns (.slice (some ⟨b, off, none⟩) [(ConD.mk qop qn qs qk (.slice qna qns.length qnc) qns (.slice qa ql.length qcc) ql)].length zcc) [(ConD.mk qop qn qs qk (.slice qna qns.length qnc) qns (.slice qa ql.length qcc) ql)])] (fun x hx => by rw [List.mem_singleton.1 hx]; exact hbz) (pC (ConD.mk qop qn qs qk (.slice qna qns.length qnc) qns (.slice qa ql.length qcc) ql)) 0 hbq
    obtain ⟨T, hT⟩ : ∃ T, sC9 [pC (ConD.mk 13 zn zs zk (.slice zna zns.length znc) zns (.slice (some ⟨b, off, none⟩) [(ConD.mk qop qn qs qk (.slice qna qns.length qnc) qns (.slice qa ql.length qcc) ql)].length zcc) [(ConD.mk qop qn qs qk (.slice qna qns.length qnc) qns (.slice qa ql.length qcc) ql)])] 0 (pC (ConD.mk qop qn qs qk (.slice qna qns.length qnc) qns (.slice qa ql.length qcc) ql)) = T := ⟨_, rfl⟩
    rw [hT] at hbT
    have HUN : Hid (Rr = orBudget (tameOf ((ds.map pC).foldl appC T))) := by
     show _ = _
     rw [HUR.out, unroll_mu HOP.out, ← HPD.out, HZP.out, ← HPL.out, ← hT, HZP.out]; rfl
    have HQV := hJQ (cVQ (op := qop) (n := qn) (s := qs) (nv := .slice qna qns.length qnc) (lv := .slice qa ql.length qcc) (ns := qns) (l := ql) hqk)
    have HCZ : Hid (cEQ (ConD.mk 13 zn zs zk (.slice zna zns.length znc) zns (.slice (some ⟨b, off, none⟩) [(ConD.mk qop qn qs qk (.slice qna qns.length qnc) qns (.slice qa ql.length qcc) ql)].length zcc) [(ConD.mk qop qn qs qk (.slice qna qns.length qnc) qns (.slice qa ql.length qcc) ql)]) = [.int .i64 13, .int .i64 zn, .string zs, .slice zka zkn zkc, .slice zna zns.length znc, .slice (some ⟨b, off, none⟩) 1 zcc]) := by show [_, _, _, zk.v, _, _] = _; rw [HZK0.out]; rfl
    have HRow : Hid (∀ (Q : Nat->Prop) (g : Nat) (U : World), Q g->U.heap[g]? = some (.cells #[.int .i64 13, .int .i64 zn, .string zs, .slice zka zkn zkc, .slice zna zns.length znc, .slice (some ⟨b, off, none⟩) 1 zcc] 28 (0, 0))->RowP Q U (.slice (some ⟨g, 0, none⟩) 1 1) 1 (cEQ (ConD.mk 13 zn zs zk (.slice zna zns.length znc) zns (.slice (some ⟨b, off, none⟩) [(ConD.mk qop qn qs qk (.slice qna qns.length qnc) qns (.slice qa ql.length qcc) ql)].length zcc) [(ConD.mk qop qn qs qk (.slice qna qns.length qnc) qns (.slice qa ql.length qcc) ql)]))) := fun Q g U hq hk => rHQ hk hq _ (by rw [HCZ.out]) 1 1 (nLQ _)
    obtain ⟨hzq, hdq, hfq⟩ := val_iff.1 hvq
    obtain ⟨hzz, hdz2, hfz⟩ := val_iff.1 hvz
    have HGr : Hid (∀ (g : Nat) U, Below V.heap.size V U->U.heap[g]? = some (.cells #[.int .i64 13, .int .i64 zn, .string zs, .slice zka zkn zkc, .slice zna zns.length znc, .slice (some ⟨b, off, none⟩) 1 zcc] 28 (0, 0))->Calls Tryz.prog 39 #[.agg #[.int .i64 qop, .int .i64 qn, .string qs, .slice qka qkn qkc, .slice qna qns.length qnc, .slice qa ql.length qcc], .slice (some ⟨g, 0, none⟩) 1 1] U fun e w' => e = .returned (.int .i64 (sizeC T : Nat))/\Below U.heap.size U w') := fun g U hU hk => by
     have hU3 : Below w3.heap.size w3 U := HB34.out.trans (hU.mono HB34.out.size)
     have := rGrown_any (fun _ => True) (ConD.mk qop qn qs qk (.slice qna qns.length qnc) qns (.slice qa ql.length qcc) ql) (ConD.mk 13 zn zs zk (.slice zna zns.length znc) zns (.slice (some ⟨b, off, none⟩) [(ConD.mk qop qn qs qk (.slice qna qns.length qnc) qns (.slice qa ql.length qcc) ql)].length zcc) [(ConD.mk qop qn qs qk (.slice qna qns.length qnc) qns (.slice qa ql.length qcc) ql)]) (some ⟨g, 0, none⟩) 1 U ((iBQ hqc hU3).mono (fun _ _ _ => trivial)) hfq hzq (by omega) (HRow.out _ g U trivial hk) ((iBQ HDZ.out hU3).mono (fun _ _ _ => trivial)) hfz hzz
     rw [HQV.out, hT] at this
     exact this
    have hsub : ∀ (Q : Nat->Prop) (g : Nat) U, Below V.heap.size V U->(∀ b, b < w3.heap.size->(b ≠ w.heap.size/\b ≠ w.heap.size + 1)->Q b)->(∀ b, U.heap.size<=b->Q b)->Q g->U.heap[g]? = some (.cells #[.int .i64 13, .int .i64 zn, .string zs, .slice zka zkn zkc, .slice zna zns.length znc, .slice (some ⟨b, off, none⟩) 1 zcc] 28 (0, 0))->Calls Tryz.prog 40 #[.agg #[.int .i64 qop, .int .i64 qn, .string qs, .slice qka qkn qkc, .slice qna qns.length qnc, .slice qa ql.length qcc], .slice (some ⟨g, 0, none⟩) 1 1] U fun e w' => ConOut Q T e w'/\Below U.heap.size U w' := fun Q g U hU hQ0 hQ hg hk => by
     have hU3 : Below w3.heap.size w3 U := HB34.out.trans (hU.mono HB34.out.size)
     have := rSubst_any Q (ConD.mk qop qn qs qk (.slice qna qns.length qnc) qns (.slice qa ql.length qcc) ql) (ConD.mk 13 zn zs zk (.slice zna zns.length znc) zns (.slice (some ⟨b, off, none⟩) [(ConD.mk qop qn qs qk (.slice qna qns.length qnc) qns (.slice qa ql.length qcc) ql)].length zcc) [(ConD.mk qop qn qs qk (.slice qna qns.length qnc) qns (.slice qa ql.length qcc) ql)]) (some ⟨g, 0, none⟩) 1 U hQ (iBQ (hqc.lt.mono (fun b hb _ => hQ0 b hb.2 hb.1)) hU3) hfq (by omega) (by omega) (HRow.out Q g U hg hk) (iBQ (HDZ.out.lt.mono (fun b hb _ => hQ0 b hb.2 hb.1)) hU3) hfz (by omega) (by omega)
     rw [HQV.out, hT] at this
     exact this
    have HSU : Hid (∀ (g : Nat) U, Below V.heap.size V U->V.heap.size<=g->U.heap[g]? = some (.cells #[.int .i64 13, .int .i64 zn, .string zs, .slice zka zkn zkc, .slice zna zns.length znc, .slice (some ⟨b, off, none⟩) 1 zcc] 28 (0, 0))->Calls Tryz.prog 40 #[.agg #[.int .i64 qop, .int .i64 qn, .string qs, .slice qka qkn qkc, .slice qna qns.length qnc, .slice qa ql.length qcc], .slice (some ⟨g, 0, none⟩) 1 1] U fun e w' => ConOut (fun b => b ≠ w.heap.size/\b ≠ w.heap.size + 1) T e w'/\Below U.heap.size U w') := fun g U hU hg hk => by
     have h1 := HB34.out.size; have h2 := HS1.out; have h3 := HS13.out; have h4 := hU.size
     exact hsub (fun b => b ≠ w.heap.size/\b ≠ w.heap.size + 1) g U hU (fun b _ hb => hb) (fun b hb => ⟨by omega, by omega⟩) ⟨by omega, by omega⟩ hk
    have HSU2 : Hid (∀ (gb g : Nat) U, Below V.heap.size V U->V.heap.size<=g->V.heap.size<=gb->gb < U.heap.size->g ≠ gb->U.heap[g]? = some (.cells #[.int .i64 13, .int .i64 zn, .string zs, .slice zka zkn zkc, .slice zna zns.length znc, .slice (some ⟨b, off, none⟩) 1 zcc] 28 (0, 0))->Calls Tryz.prog 40 #[.agg #[.int .i64 qop, .int .i64 qn, .string qs, .slice qka qkn qkc, .slice qna qns.length qnc, .slice qa ql.length qcc], .slice (some ⟨g, 0, none⟩) 1 1] U fun e w' => ConOut (fun b => (b ≠ w.heap.size/\b ≠ w.heap.size + 1)/\b ≠ gb) T e w'/\Below U.heap.size U w') := fun gb g U hU hg hgb hlt hne hk => by
     have h1 := HB34.out.size; have h2 := HS1.out; have h3 := HS13.out; have h4 := hU.size
     exact hsub (fun b => (b ≠ w.heap.size/\b ≠ w.heap.size + 1)/\b ≠ gb) g U hU (fun b hlt hb => ⟨hb, by omega⟩) (fun b hb => ⟨⟨by omega, by omega⟩, by omega⟩) ⟨⟨by omega, by omega⟩, hne⟩ hk
    have HSS : Hid (∀ U, Below V.heap.size V U->(fun w9 => w9.cell? ⟨w3.heap.size, 0, none⟩ = some (.int .i64 13)/\w9.cell? ⟨w3.heap.size, 1, none⟩ = some (.int .i64 zn)/\w9.cell? ⟨w3.heap.size, 2, none⟩ = some (.string zs)/\w9.cell? ⟨w3.heap.size, 3, none⟩ = some (.slice zka zkn zkc)/\w9.cell? ⟨w3.heap.size, 4, none⟩ = some (.slice zna zns.length znc)/\w9.cell? ⟨w3.heap.size, 5, none⟩ = some (.slice (some ⟨b, off, none⟩) 1 zcc)/\w9.cell? ⟨b, off, none⟩ = some (.int .i64 qop)/\w9.cell? ⟨b, off + 1, none⟩ = some (.int .i64 qn)/\w9.cell? ⟨b, off + 2, none⟩ = some (.string qs)/\w9.cell? ⟨b, off + 3, none⟩ = some (.slice qka qkn qkc)/\w9.cell? ⟨b, off + 4, none⟩ = some (.slice qna qns.length qnc)/\w9.cell? ⟨b, off + 5, none⟩ = some (.slice qa ql.length qcc)) U) := fun U hU => by
     have hU3 : Below w3.heap.size w3 U := HB34.out.trans (hU.mono HB34.out.size)
     have hq : ∀ (o : Nat) (v : Value), w3.cell? ⟨b, o, none⟩ = some v->U.cell? ⟨b, o, none⟩ = some v := fun o v hc => (World.cell?_of_block (a := ⟨b, o, none⟩) (hU3.block b hbl)).trans hc
     obtain ⟨q0, q1, q2, q3, q4, q5⟩ := HQC.out
     obtain ⟨y0, y1, y2, y3, y4, y5⟩ := cnQ ((hU.block _ (hLQ HZ2.out)).trans HZ2.out)
     exact ⟨y0, y1, y2, y3, y4, y5, hq _ _ q0, hq _ _ q1, hq _ _ q2, hq _ _ q3, hq _ _ q4, hq _ _ q5⟩
    have HBT := hJQ hbT
    obtain ⟨NT, hNT⟩ : ∃ n, sizeC T = n := ⟨_, rfl⟩
    rw [hNT] at HGr
    have HNT := hJQ hNT
    clear q0 q1 q2 q3 q4 q5 hqc hqk hvq hbq hvz hbz hbT hT HSTP HSV3 HQC HQV hsub hzq hdq hfq hzz hdz2 hfz hNT
    go_upto_region 9 with fail
    clear z0 z1 z2 z3 z4 z5
    have hbD : Below V.heap.size V V.drew := (Below.refl _ _).drew
    refine wp_region_held_drew (S := (fun w9 => w9.cell? ⟨w3.heap.size, 0, none⟩ = some (.int .i64 13)/\w9.cell? ⟨w3.heap.size, 1, none⟩ = some (.int .i64 zn)/\w9.cell? ⟨w3.heap.size, 2, none⟩ = some (.string zs)/\w9.cell? ⟨w3.heap.size, 3, none⟩ = some (.slice zka zkn zkc)/\w9.cell? ⟨w3.heap.size, 4, none⟩ = some (.slice zna zns.length znc)/\w9.cell? ⟨w3.heap.size, 5, none⟩ = some (.slice (some ⟨b, off, none⟩) 1 zcc)/\w9.cell? ⟨b, off, none⟩ = some (.int .i64 qop)/\w9.cell? ⟨b, off + 1, none⟩ = some (.int .i64 qn)/\w9.cell? ⟨b, off + 2, none⟩ = some (.string qs)/\w9.cell? ⟨b, off + 3, none⟩ = some (.slice qka qkn qkc)/\w9.cell? ⟨b, off + 4, none⟩ = some (.slice qna qns.length qnc)/\w9.cell? ⟨b, off + 5, none⟩ = some (.slice qa ql.length qcc))) (by kernel_rfl) (HSS.out _ hbD) (fun hHeld => ?_)
    refine tks (b := ?_) (by kernel_rfl) (fun _ _ _ _ _ h => h) (HSS.out _ hbD) 5 [0, 1, 2, 3, 4] (by kernel_rfl) ?_ ?_
    rotate_left
    ·iterate 5 (refine yc (v := ?_) rfl rfl (by rfl) (fun w9 hSw => ?_) ?_; rotate_left; (focus go_simp; try rfl); simp only [Act.put, l1Q, l2Q, l3Q])
     exact rfl
    generalize hU0 : V.drew = U0 at *
    have HU0 := hJQ hU0
    clear hU0
    refine rd1 5 (by kernel_rfl) (by rfl) (fun K hK => ?_)
    go_simp
    have hb1 := hbD.trans (gUQ (gAQ U0 (.cells #[.int .i64 13, .int .i64 zn, .string zs, .slice zka zkn zkc, .slice zna zns.length znc, .slice (some ⟨b, off, none⟩) 1 zcc] 28)) hbD.size (by nofun))
    have HK9 : Hid ((U0.alloc (.cells #[.int .i64 13, .int .i64 zn, .string zs, .slice zka zkn zkc, .slice zna zns.length znc, .slice (some ⟨b, off, none⟩) 1 zcc] 28)).heap[U0.heap.size]? = some (.cells #[.int .i64 13, .int .i64 zn, .string zs, .slice zka zkn zkc, .slice zna zns.length znc, .slice (some ⟨b, off, none⟩) 1 zcc] 28 (0, 0))) := nHQ U0 (.cells #[.int .i64 13, .int .i64 zn, .string zs, .slice zka zkn zkc, .slice zna zns.length znc, .slice (some ⟨b, off, none⟩) 1 zcc] 28)
    have HS9 : Hid (U0.heap.size < (U0.alloc (.cells #[.int .i64 13, .int .i64 zn, .string zs, .slice zka zkn zkc, .slice zna zns.length znc, .slice (some ⟨b, off, none⟩) 1 zcc] 28)).heap.size) := by show _ < _; simp
    refine hK.out _ _ (HSS.out _ hb1) (fun _ => ?_)
    clear hK K
    generalize U0.alloc (.cells #[.int .i64 13, .int .i64 zn, .string zs, .slice zka zkn zkc, .slice zna zns.length znc, .slice (some ⟨b, off, none⟩) 1 zcc] 28) = U1 at *
    refine rd1 6 (by kernel_rfl) (by rfl) (fun K hK => ?_)
    go_simp
    go_at_call 39
    refine (HGr.out U0.heap.size _ hb1 HK9.out).mono ?_
    rintro e W2 ⟨rfl, hb2⟩
    have hbX := hb1.trans (hb2.mono hb1.size)
    refine hK.out _ _ (HSS.out _ hbX) (fun _ => ?_)
    clear hK K
    refine tks (b := ?_) (by kernel_rfl) (fun _ _ _ _ _ h => h) (HSS.out _ hbX) 1 [7] (by kernel_rfl) ?_ ?_
    rotate_left
    ·refine yc (v := ?_) rfl rfl (by rfl) (fun w9 hSw => ?_) ?_; rotate_left; (focus go_simp; try rfl); simp only [Act.put, l1Q, l2Q, l3Q]
     exact rfl
    refine wpAnyH_done (by kernel_rfl) ?_ _
    have hbwX := HBWV.out.trans (hbX.mono HBWV.out.size)
    have kRX := (hbX.block _ (hLQ HRV.out)).trans HRV.out
    have HRX := hJQ kRX
    have HZX := hJQ ((hbX.block _ (hLQ HZ2.out)).trans HZ2.out)
    have S9 := HSS.out _ hbX
    clear hHeld hb1 hb2 HK9 HS9 hbD HGr HU0
    by_cases hN : 20000 < NT
    ·have hN' : ((20000 : Int) < (NT : Int)) = True := eq_true (by omega)
     have HZR : Hid (Rr = (zeroN, 27)) := by
      show _ = _
      rw [HUN.out]
      unfold tameOf
      rw [if_neg]
      ·rfl
      ·intro hq
       have h1 := fold_val _ _ hq
       rw [val_size (by rw [HNT.out]; omega)] at h1
       cases h1
     clear S9
     obtain ⟨HRF, HBF⟩ := put_res hbwX kRX #[.int .i64 0, .int .i64 0, .string ⟨#[]⟩, .slice none 0 0, .slice none 0 0, .slice none 0 0]
     go_wp2_with (refine wpList_store_row rfl 28 _ _ rfl (w.heap.size + 1) _ rfl rfl 28 _ kRX cIQ rfl (all_one _ rfl) ?_)
     exact bodyPost_ret (res2 rfl rfl rfl HRF.out) rfl (pair_zero HBF.out (HZR.out))
    ·have hN' : ((20000 : Int) < (NT : Int)) = False := eq_false (by omega)
     obtain ⟨s0, s1, s2, s3, s4, s5, q0, q1, q2, q3, q4, q5⟩ := S9
     go_upto_region 11 with fail
     clear s0 s1 s2 s3 s4 s5 q0 q1 q2 q3 q4 q5 hN'
     have hbD : Below V.heap.size V W2.drew := hbX.drew
     go_cut [8] (fun v8 wx => ∃ (gb : Nat) (d : ConD), v8 = .pointer (some ⟨gb, 0, none⟩)/\Hid (Below V.heap.size V wx/\IsCon (fun b => (b ≠ w.heap.size/\b ≠ w.heap.size + 1)/\b ≠ gb) wx d/\wx.heap[gb]? = some (.cells (cEQ d).toArray 28)/\V.heap.size<=gb/\pC d = T))
     case first =>
      refine wp_region_held_drew (S := (fun w9 => w9.cell? ⟨w3.heap.size, 0, none⟩ = some (.int .i64 13)/\w9.cell? ⟨w3.heap.size, 1, none⟩ = some (.int .i64 zn)/\w9.cell? ⟨w3.heap.size, 2, none⟩ = some (.string zs)/\w9.cell? ⟨w3.heap.size, 3, none⟩ = some (.slice zka zkn zkc)/\w9.cell? ⟨w3.heap.size, 4, none⟩ = some (.slice zna zns.length znc)/\w9.cell? ⟨w3.heap.size, 5, none⟩ = some (.slice (some ⟨b, off, none⟩) 1 zcc)/\w9.cell? ⟨b, off, none⟩ = some (.int .i64 qop)/\w9.cell? ⟨b, off + 1, none⟩ = some (.int .i64 qn)/\w9.cell? ⟨b, off + 2, none⟩ = some (.string qs)/\w9.cell? ⟨b, off + 3, none⟩ = some (.slice qka qkn qkc)/\w9.cell? ⟨b, off + 4, none⟩ = some (.slice qna qns.length qnc)/\w9.cell? ⟨b, off + 5, none⟩ = some (.slice qa ql.length qcc))) (by kernel_rfl) (HSS.out _ hbD) (fun hHeld => ?_)
      refine tks (b := ?_) (by kernel_rfl) (fun _ _ _ _ _ h => h) (HSS.out _ hbD) 5 [0, 1, 2, 3, 4] (by kernel_rfl) ?_ ?_
      rotate_left
      ·iterate 5 (refine yc (v := ?_) rfl rfl (by rfl) (fun w9 hSw => ?_) ?_; rotate_left; (focus go_simp; try rfl); simp only [Act.put, l1Q, l2Q, l3Q])
       exact rfl
      generalize W2.drew = U0 at *
      refine wpAnyH_ready (rs := [5, 7]) (by kernel_rfl) (by simp) (AllReadyH.cons (by rfl) (fun K hK => ?r5) (AllReadyH.cons (by rfl) (fun K hK => ?r7) (AllReadyH.nil)))
      case r5 =>
       go_simp
       have hb1 := hbD.trans (gUQ (gAQ U0 (.cells #[.int .i64 13, .int .i64 zn, .string zs, .slice zka zkn zkc, .slice zna zns.length znc, .slice (some ⟨b, off, none⟩) 1 zcc] 28)) hbD.size (by nofun))
       have HK9 : Hid ((U0.alloc (.cells #[.int .i64 13, .int .i64 zn, .string zs, .slice zka zkn zkc, .slice zna zns.length znc, .slice (some ⟨b, off, none⟩) 1 zcc] 28)).heap[U0.heap.size]? = some (.cells #[.int .i64 13, .int .i64 zn, .string zs, .slice zka zkn zkc, .slice zna zns.length znc, .slice (some ⟨b, off, none⟩) 1 zcc] 28 (0, 0))) := nHQ U0 (.cells #[.int .i64 13, .int .i64 zn, .string zs, .slice zka zkn zkc, .slice zna zns.length znc, .slice (some ⟨b, off, none⟩) 1 zcc] 28)
       have HS9 : Hid (U0.heap.size < (U0.alloc (.cells #[.int .i64 13, .int .i64 zn, .string zs, .slice zka zkn zkc, .slice zna zns.length znc, .slice (some ⟨b, off, none⟩) 1 zcc] 28)).heap.size) := by show _ < _; simp
       have HRK := HK9
       have HRS := HS9
       refine hK.out _ _ (HSS.out _ hb1) (fun _ => ?_)
       clear hK K
       generalize U0.alloc (.cells #[.int .i64 13, .int .i64 zn, .string zs, .slice zka zkn zkc, .slice zna zns.length znc, .slice (some ⟨b, off, none⟩) 1 zcc] 28) = U1 at *
       refine wpAnyH_ready (rs := [6, 7]) (by kernel_rfl) (by simp) (AllReadyH.cons (by rfl) (fun K hK => ?r6) (AllReadyH.cons (by rfl) (fun K hK => ?r8) (AllReadyH.nil)))
       case r6 =>
        go_simp
        go_at_call 40
        refine (HSU.out U0.heap.size _ hb1 hbD.size HRK.out).mono ?_
        rintro e w5 ⟨⟨d, rfl, hd, hpd5⟩, hb5⟩
        obtain ⟨eop, en, es, ek, ens, el, eka, ekn, ekc, ena, enc, ea, ecc, rfl, hek, _⟩ := cSQ hd
        have HEV := hJQ (cVQ (op := eop) (n := en) (s := es) (nv := .slice ena ens.length enc) (lv := .slice ea el.length ecc) (ns := ens) (l := el) hek)
        rw [HEV.out]
        have hbS := hb1.trans (hb5.mono hb1.size)
        refine hK.out _ _ (HSS.out _ hbS) (fun _ => ?_)
        clear hK K
        refine rd1 7 (by kernel_rfl) (by rfl) (fun K hK => ?_)
        go_simp
        have hb2 := hbS.trans (gUQ (gAQ w5 (.cells #[.int .i64 0, .int .i64 0, .string ⟨#[]⟩, .slice none 0 0, .slice none 0 0, .slice none 0 0] 28)) hbS.size (by nofun))
        have HK9 : Hid ((w5.alloc (.cells #[.int .i64 0, .int .i64 0, .string ⟨#[]⟩, .slice none 0 0, .slice none 0 0, .slice none 0 0] 28)).heap[w5.heap.size]? = some (.cells #[.int .i64 0, .int .i64 0, .string ⟨#[]⟩, .slice none 0 0, .slice none 0 0, .slice none 0 0] 28 (0, 0))) := nHQ w5 (.cells #[.int .i64 0, .int .i64 0, .string ⟨#[]⟩, .slice none 0 0, .slice none 0 0, .slice none 0 0] 28)
        have HS9 : Hid (w5.heap.size < (w5.alloc (.cells #[.int .i64 0, .int .i64 0, .string ⟨#[]⟩, .slice none 0 0, .slice none 0 0, .slice none 0 0] 28)).heap.size) := by show _ < _; simp
        have hd := (hd.lt.mono (Q := fun b => (b ≠ w.heap.size/\b ≠ w.heap.size + 1)/\b ≠ w5.heap.size) (fun b hb _ => ⟨hb.1, by have h2 := hb.2; omega⟩)).grown (gAQ w5 (.cells #[.int .i64 0, .int .i64 0, .string ⟨#[]⟩, .slice none 0 0, .slice none 0 0, .slice none 0 0] 28)) (by nofun)
        refine hK.out _ _ (HSS.out _ hb2) (fun _ => ?_)
        clear hK K
        generalize w5.alloc (.cells #[.int .i64 0, .int .i64 0, .string ⟨#[]⟩, .slice none 0 0, .slice none 0 0, .slice none 0 0] 28) = U2 at *
        have hrw := gRQ U2 (w5.heap.size) #[.int .i64 eop, .int .i64 en, .string es, .slice eka ekn ekc, .slice ena ens.length enc, .slice ea el.length ecc]
        have hbF : Below V.heap.size V (U2.setRow (w5.heap.size) #[.int .i64 eop, .int .i64 en, .string es, .slice eka ekn ekc, .slice ena ens.length enc, .slice ea el.length ecc]) := hb2.trans (gUQ hrw hb2.size (fun q hq => by have e2 : w5.heap.size = q := oJQ hq; rw [← e2]; exact hbS.size))
        refine held_store 8 (by kernel_rfl) (by rfl) (by rfl) (by rfl) 28 _ _ (by rfl) (w5.heap.size) #[.int .i64 eop, .int .i64 en, .string es, .slice eka ekn ekc, .slice ena ens.length enc, .slice ea el.length ecc] (by rfl) (by rfl) 28 _ HK9.out cIQ rfl (all_one _ rfl) (HSS.out _ hbF) ?_
        refine wpAnyH_done (by kernel_rfl) ?_ _
        have hkE := setRow_heap U2 (w5.heap.size) _ #[.int .i64 eop, .int .i64 en, .string es, .slice eka ekn ekc, .slice ena ens.length enc, .slice ea el.length ecc] _ _ HK9.out
        have hdF := (hd).grown hrw (fun q hq hp => hp.2 (oJQ hq).symm)
        go_wp2_with fail
        go_meet
        exact ⟨w5.heap.size, (ConD.mk eop en es ek (.slice ena ens.length enc) ens (.slice ea el.length ecc) el), rfl, ⟨hbF, hdF, by rw [hkE]; show _ = some (Obj.cells #[_, _, _, ek.v, _, _] _ _); rw [hek]; rfl, hbS.size, hpd5⟩⟩
       case r8 =>
        go_simp
        have hb2 := hb1.trans (gUQ (gAQ U1 (.cells #[.int .i64 0, .int .i64 0, .string ⟨#[]⟩, .slice none 0 0, .slice none 0 0, .slice none 0 0] 28)) hb1.size (by nofun))
        have HK9 : Hid ((U1.alloc (.cells #[.int .i64 0, .int .i64 0, .string ⟨#[]⟩, .slice none 0 0, .slice none 0 0, .slice none 0 0] 28)).heap[U1.heap.size]? = some (.cells #[.int .i64 0, .int .i64 0, .string ⟨#[]⟩, .slice none 0 0, .slice none 0 0, .slice none 0 0] 28 (0, 0))) := nHQ U1 (.cells #[.int .i64 0, .int .i64 0, .string ⟨#[]⟩, .slice none 0 0, .slice none 0 0, .slice none 0 0] 28)
        have HS9 : Hid (U1.heap.size < (U1.alloc (.cells #[.int .i64 0, .int .i64 0, .string ⟨#[]⟩, .slice none 0 0, .slice none 0 0, .slice none 0 0] 28)).heap.size) := by show _ < _; simp
        have HRK := hJQ (((gAQ U1 (.cells #[.int .i64 0, .int .i64 0, .string ⟨#[]⟩, .slice none 0 0, .slice none 0 0, .slice none 0 0] 28)).block _ HRS.out (by nofun)).trans HRK.out)
        refine hK.out _ _ (HSS.out _ hb2) (fun _ => ?_)
        clear hK K
        generalize U1.alloc (.cells #[.int .i64 0, .int .i64 0, .string ⟨#[]⟩, .slice none 0 0, .slice none 0 0, .slice none 0 0] 28) = U2 at *
        refine rd1 6 (by kernel_rfl) (by rfl) (fun K hK => ?_)
        go_simp
        go_at_call 40
        refine (HSU2.out U1.heap.size U0.heap.size _ hb2 hbD.size hb1.size HS9.out (Nat.ne_of_lt HRS.out) HRK.out).mono ?_
        rintro e w5 ⟨⟨d, rfl, hd, hpd5⟩, hb5⟩
        obtain ⟨eop, en, es, ek, ens, el, eka, ekn, ekc, ena, enc, ea, ecc, rfl, hek, _⟩ := cSQ hd
        have HEV := hJQ (cVQ (op := eop) (n := en) (s := es) (nv := .slice ena ens.length enc) (lv := .slice ea el.length ecc) (ns := ens) (l := el) hek)
        rw [HEV.out]
        have hbS := hb2.trans (hb5.mono hb2.size)
        refine hK.out _ _ (HSS.out _ hbS) (fun _ => ?_)
        clear hK K
        have kL := (hb5.block _ HS9.out).trans HK9.out
        have hrw := gRQ w5 (U1.heap.size) #[.int .i64 eop, .int .i64 en, .string es, .slice eka ekn ekc, .slice ena ens.length enc, .slice ea el.length ecc]
        have hbF : Below V.heap.size V (w5.setRow (U1.heap.size) #[.int .i64 eop, .int .i64 en, .string es, .slice eka ekn ekc, .slice ena ens.length enc, .slice ea el.length ecc]) := hbS.trans (gUQ hrw hbS.size (fun q hq => by have e2 : U1.heap.size = q := oJQ hq; rw [← e2]; exact hb1.size))
        refine held_store 8 (by kernel_rfl) (by rfl) (by rfl) (by rfl) 28 _ _ (by rfl) (U1.heap.size) #[.int .i64 eop, .int .i64 en, .string es, .slice eka ekn ekc, .slice ena ens.length enc, .slice ea el.length ecc] (by rfl) (by rfl) 28 _ kL cIQ rfl (all_one _ rfl) (HSS.out _ hbF) ?_
        refine wpAnyH_done (by kernel_rfl) ?_ _
        have hkE := setRow_heap w5 (U1.heap.size) _ #[.int .i64 eop, .int .i64 en, .string es, .slice eka ekn ekc, .slice ena ens.length enc, .slice ea el.length ecc] _ _ kL
        have hdF := (hd).grown hrw (fun q hq hp => hp.2 (oJQ hq).symm)
        go_wp2_with fail
        go_meet
        exact ⟨U1.heap.size, (ConD.mk eop en es ek (.slice ena ens.length enc) ens (.slice ea el.length ecc) el), rfl, ⟨hbF, hdF, by rw [hkE]; show _ = some (Obj.cells #[_, _, _, ek.v, _, _] _ _); rw [hek]; rfl, hb1.size, hpd5⟩⟩
      case r7 =>
       go_simp
       have hb1 := hbD.trans (gUQ (gAQ U0 (.cells #[.int .i64 0, .int .i64 0, .string ⟨#[]⟩, .slice none 0 0, .slice none 0 0, .slice none 0 0] 28)) hbD.size (by nofun))
       have HK9 : Hid ((U0.alloc (.cells #[.int .i64 0, .int .i64 0, .string ⟨#[]⟩, .slice none 0 0, .slice none 0 0, .slice none 0 0] 28)).heap[U0.heap.size]? = some (.cells #[.int .i64 0, .int .i64 0, .string ⟨#[]⟩, .slice none 0 0, .slice none 0 0, .slice none 0 0] 28 (0, 0))) := nHQ U0 (.cells #[.int .i64 0, .int .i64 0, .string ⟨#[]⟩, .slice none 0 0, .slice none 0 0, .slice none 0 0] 28)
       have HS9 : Hid (U0.heap.size < (U0.alloc (.cells #[.int .i64 0, .int .i64 0, .string ⟨#[]⟩, .slice none 0 0, .slice none 0 0, .slice none 0 0] 28)).heap.size) := by show _ < _; simp
       have HZK := HK9
       have HZS := HS9
       refine hK.out _ _ (HSS.out _ hb1) (fun _ => ?_)
       clear hK K
       generalize U0.alloc (.cells #[.int .i64 0, .int .i64 0, .string ⟨#[]⟩, .slice none 0 0, .slice none 0 0, .slice none 0 0] 28) = U1 at *
       refine rd1 5 (by kernel_rfl) (by rfl) (fun K hK => ?_)
       go_simp
       have hb2 := hb1.trans (gUQ (gAQ U1 (.cells #[.int .i64 13, .int .i64 zn, .string zs, .slice zka zkn zkc, .slice zna zns.length znc, .slice (some ⟨b, off, none⟩) 1 zcc] 28)) hb1.size (by nofun))
       have HK9 : Hid ((U1.alloc (.cells #[.int .i64 13, .int .i64 zn, .string zs, .slice zka zkn zkc, .slice zna zns.length znc, .slice (some ⟨b, off, none⟩) 1 zcc] 28)).heap[U1.heap.size]? = some (.cells #[.int .i64 13, .int .i64 zn, .string zs, .slice zka zkn zkc, .slice zna zns.length znc, .slice (some ⟨b, off, none⟩) 1 zcc] 28 (0, 0))) := nHQ U1 (.cells #[.int .i64 13, .int .i64 zn, .string zs, .slice zka zkn zkc, .slice zna zns.length znc, .slice (some ⟨b, off, none⟩) 1 zcc] 28)
       have HS9 : Hid (U1.heap.size < (U1.alloc (.cells #[.int .i64 13, .int .i64 zn, .string zs, .slice zka zkn zkc, .slice zna zns.length znc, .slice (some ⟨b, off, none⟩) 1 zcc] 28)).heap.size) := by show _ < _; simp
       have HZK := hJQ (((gAQ U1 (.cells #[.int .i64 13, .int .i64 zn, .string zs, .slice zka zkn zkc, .slice zna zns.length znc, .slice (some ⟨b, off, none⟩) 1 zcc] 28)).block _ HZS.out (by nofun)).trans HZK.out)
       refine hK.out _ _ (HSS.out _ hb2) (fun _ => ?_)
       clear hK K
       generalize U1.alloc (.cells #[.int .i64 13, .int .i64 zn, .string zs, .slice zka zkn zkc, .slice zna zns.length znc, .slice (some ⟨b, off, none⟩) 1 zcc] 28) = U2 at *
       refine rd1 6 (by kernel_rfl) (by rfl) (fun K hK => ?_)
       go_simp
       go_at_call 40
       refine (HSU2.out U0.heap.size U1.heap.size _ hb2 hb1.size hbD.size (Nat.lt_trans HZS.out HS9.out) (Nat.ne_of_lt HZS.out).symm HK9.out).mono ?_
       rintro e w5 ⟨⟨d, rfl, hd, hpd5⟩, hb5⟩
       obtain ⟨eop, en, es, ek, ens, el, eka, ekn, ekc, ena, enc, ea, ecc, rfl, hek, _⟩ := cSQ hd
       have HEV := hJQ (cVQ (op := eop) (n := en) (s := es) (nv := .slice ena ens.length enc) (lv := .slice ea el.length ecc) (ns := ens) (l := el) hek)
       rw [HEV.out]
       have hbS := hb2.trans (hb5.mono hb2.size)
       refine hK.out _ _ (HSS.out _ hbS) (fun _ => ?_)
       clear hK K
       have kL := (hb5.block _ (Nat.lt_trans HZS.out HS9.out)).trans HZK.out
       have hrw := gRQ w5 (U0.heap.size) #[.int .i64 eop, .int .i64 en, .string es, .slice eka ekn ekc, .slice ena ens.length enc, .slice ea el.length ecc]
       have hbF : Below V.heap.size V (w5.setRow (U0.heap.size) #[.int .i64 eop, .int .i64 en, .string es, .slice eka ekn ekc, .slice ena ens.length enc, .slice ea el.length ecc]) := hbS.trans (gUQ hrw hbS.size (fun q hq => by have e2 : U0.heap.size = q := oJQ hq; rw [← e2]; exact hbD.size))
       refine held_store 8 (by kernel_rfl) (by rfl) (by rfl) (by rfl) 28 _ _ (by rfl) (U0.heap.size) #[.int .i64 eop, .int .i64 en, .string es, .slice eka ekn ekc, .slice ena ens.length enc, .slice ea el.length ecc] (by rfl) (by rfl) 28 _ kL cIQ rfl (all_one _ rfl) (HSS.out _ hbF) ?_
       refine wpAnyH_done (by kernel_rfl) ?_ _
       have hkE := setRow_heap w5 (U0.heap.size) _ #[.int .i64 eop, .int .i64 en, .string es, .slice eka ekn ekc, .slice ena ens.length enc, .slice ea el.length ecc] _ _ kL
       have hdF := (hd).grown hrw (fun q hq hp => hp.2 (oJQ hq).symm)
       go_wp2_with fail
       go_meet
       exact ⟨U0.heap.size, (ConD.mk eop en es ek (.slice ena ens.length enc) ens (.slice ea el.length ecc) el), rfl, ⟨hbF, hdF, by rw [hkE]; show _ = some (Obj.cells #[_, _, _, ek.v, _, _] _ _); rw [hek]; rfl, hbD.size, hpd5⟩⟩
     case rest =>
      obtain ⟨gb, d, rfl, HVX⟩ := hcut
      clear HSU HSU2 HSS hbD
      obtain ⟨hbx, hdx, hgx, hgb, hpd⟩ := HVX.out
      have HBX5 := hJQ hbx
      have HST2 : Hid (IsCon (fun b => (b ≠ w.heap.size/\b ≠ w.heap.size + 1)/\b ≠ gb) wc d/\pC d = ((ds.take 0).map pC).foldl appC T) := ⟨hdx, by rw [hpd]; rfl⟩
      have HGX := hJQ hgx
      obtain ⟨n9, hn9⟩ : ∃ n, ds.length = n := ⟨_, rfl⟩
      have HM := hJQ hn9
      have hnb : n9<=20000 := by
       have h4 : ds.length = (spineC TY).2.length := by rw [← HPL.out, List.length_map]
       have h5 : (spineC TY).2.length<=0 + sizeC TY := HFY.out
       have h6 := HZY.out
       omega
      rw [hn9]
      clear hbx hdx hgx hpd HVX hn9 hbX hbwX kRX HZX HZ2
      go_wp2_with fail
      go_loopg [9] n9 (fun g2 lv9 wx => ∃ (j : Nat) (gd : ConD), lv9 = .int .i64 j/\j + g2 = n9/\Hid (IsCon (fun b => (b ≠ w.heap.size/\b ≠ w.heap.size + 1)/\b ≠ gb) wx gd/\pC gd = ((ds.take j).map pC).foldl appC T)/\Hid (wx.heap[gb]? = some (.cells (cEQ gd).toArray 28))/\Hid (Below V.heap.size V wx))
      case atStart => exact ⟨0, d, rfl, by omega, HST2, HGX, HBX5⟩
      case round =>
       clear HST2 HGX HBX5
       rename World => w6
       obtain ⟨j, gd, rfl, hjm, HG, HGB, HBV⟩ := hrel
       have hg6 := HG.out.1
       have hpg := hJQ HG.out.2
       obtain ⟨pop, pn, ps, pk, pns, pl, pka, pkn, pkc, pna, pnc, pa, pcc, rfl, hpk, _⟩ := cSQ hg6
       have hge : cEQ (ConD.mk pop pn ps pk (.slice pna pns.length pnc) pns (.slice pa pl.length pcc) pl) = [.int .i64 pop, .int .i64 pn, .string ps, .slice pka pkn pkc, .slice pna pns.length pnc, .slice pa pl.length pcc] := by show [_, _, _, pk.v, _, _] = _; rw [hpk]; rfl
       have HGE := hJQ hge
       have HGV := hJQ (cVQ (op := pop) (n := pn) (s := ps) (nv := .slice pna pns.length pnc) (lv := .slice pa pl.length pcc) (ns := pns) (l := pl) hpk)
       have kG : w6.heap[gb]? = some (.cells #[.int .i64 pop, .int .i64 pn, .string ps, .slice pka pkn pkc, .slice pna pns.length pnc, .slice pa pl.length pcc] 28) := by rw [HGB.out, hge]
       have HKG := hJQ kG
       have hb36 : Below w3.heap.size w3 w6 := HB34.out.trans (HBV.out.mono HB34.out.size)
       have hbw6 := HBWV.out.trans (HBV.out.mono HBWV.out.size)
       have HBW6 := hJQ hbw6
       have hs6 := hb36.size
       have HG6 := hJQ hg6
       clear hge hpk HG HGB hbw6 hg6
       by_cases hj : j < n9
       ·obtain ⟨K2, rfl⟩ : ∃ K2, gk = K2 + 1 := ⟨gk - 1, by omega⟩
        have hrt : RowP (fun b => (b ≠ w.heap.size/\b ≠ w.heap.size + 1)/\b ≠ gb) w6 (.slice oa ds.length oc) ds.length (cCQ ds) := (HL.out.1.lt.keep hb36.size (fun b _ hlt => hb36.block b hlt)).mono (fun b hb hlt => ⟨hb.1, by have := hb.2; have := HB34.out.size; omega⟩)
        have hall : ∀ y ∈ ds, IsCon (fun b => (b ≠ w.heap.size/\b ≠ w.heap.size + 1)/\b ≠ gb) w6 y := fun y hy => iBQ ((HL.out.2 y hy).lt.mono (fun b hb _ => ⟨hb.1, by have := hb.2; have := HB34.out.size; omega⟩)) hb36
        obtain ⟨b8, off8, top, tn, ts, tk, tns, tl, tka, tkn, tkc, tna, tnc, ta, tcc, ead, hbl8, hq8, ht8, hmem8, hv8, HT8, e0, e1, e2, e3, e4, e5⟩ := part_at hrt hall j (by rw [HM.out]; exact hj)
        subst ead
        have HB8 : Hid (b8 ≠ gb) := by
         obtain ⟨a', c', hv', _, hx'⟩ := hrt
         obtain ⟨b', o', hb', hp', _⟩ := hx' (by rw [HM.out]; omega)
         obtain ⟨rfl, _, _⟩ := Value.slice.inj hv'
         cases hb'
         exact hp'.2
        have HQ8 := hJQ hq8
        have HTC : Hid (cEQ (ConD.mk top tn ts tk (.slice tna tns.length tnc) tns (.slice ta tl.length tcc) tl) = [.int .i64 top, .int .i64 tn, .string ts, .slice tka tkn tkc, .slice tna tns.length tnc, .slice ta tl.length tcc]) := Array.toList_inj.2 (Value.agg.inj hv8)
        have HT8' := hJQ ht8
        have hgl := hLQ HKG.out
        have HE8 := hJQ (And.intro e0 (And.intro e1 (And.intro e2 (And.intro e3 (And.intro e4 e5)))))
        clear hrt hall ht8 hq8 hmem8 hv8 HT8 hb36 e0 e1 e2 e3 e4 e5
        have HSS : Hid (∀ U, w6.grownBy U (some gb)->(fun w9 => w9.cell? ⟨b8, off8 + j * 6, none⟩ = some (.int .i64 top)/\w9.cell? ⟨b8, off8 + j * 6 + 1, none⟩ = some (.int .i64 tn)/\w9.cell? ⟨b8, off8 + j * 6 + 2, none⟩ = some (.string ts)/\w9.cell? ⟨b8, off8 + j * 6 + 3, none⟩ = some (.slice tka tkn tkc)/\w9.cell? ⟨b8, off8 + j * 6 + 4, none⟩ = some (.slice tna tns.length tnc)/\w9.cell? ⟨b8, off8 + j * 6 + 5, none⟩ = some (.slice ta tl.length tcc)) U) := fun U hU => by
         have hc : ∀ (o : Nat) (v : Value), w6.cell? ⟨b8, o, none⟩ = some v->U.cell? ⟨b8, o, none⟩ = some v := fun o v h => (World.cell?_of_block (a := ⟨b8, o, none⟩) (hU.block b8 hbl8 (fun e => HB8.out (oJQ e)))).trans h
         obtain ⟨e0, e1, e2, e3, e4, e5⟩ := HE8.out
         exact ⟨hc _ _ e0, hc _ _ e1, hc _ _ e2, hc _ _ e3, hc _ _ e4, hc _ _ e5⟩
        go_upto_region 15 with fail
        have hgR := gBQ (gAQ w6 (.cells #[.int .i64 pop, .int .i64 pn, .string ps, .slice pka pkn pkc, .slice pna pns.length pnc, .slice pa pl.length pcc, .int .i64 top, .int .i64 tn, .string ts, .slice tka tkn tkc, .slice tna tns.length tnc, .slice ta tl.length tcc] 28)) (gDQ (w6.alloc (.cells #[.int .i64 pop, .int .i64 pn, .string ps, .slice pka pkn pkc, .slice pna pns.length pnc, .slice pa pl.length pcc, .int .i64 top, .int .i64 tn, .string ts, .slice tka tkn tkc, .slice tna tns.length tnc, .slice ta tl.length tcc] 28)))
        have hgD : w6.grownBy w6.drew none := gDQ w6
        have kG8 : ((w6.alloc (.cells #[.int .i64 pop, .int .i64 pn, .string ps, .slice pka pkn pkc, .slice pna pns.length pnc, .slice pa pl.length pcc, .int .i64 top, .int .i64 tn, .string ts, .slice tka tkn tkc, .slice tna tns.length tnc, .slice ta tl.length tcc] 28)).drew).heap[gb]? = some (.cells #[.int .i64 pop, .int .i64 pn, .string ps, .slice pka pkn pkc, .slice pna pns.length pnc, .slice pa pl.length pcc] 28) := (hgR.block gb hgl (by nofun)).trans HKG.out
        have hgS := gBQ (fNQ hgR (some gb)) (gRQ ((w6.alloc (.cells #[.int .i64 pop, .int .i64 pn, .string ps, .slice pka pkn pkc, .slice pna pns.length pnc, .slice pa pl.length pcc, .int .i64 top, .int .i64 tn, .string ts, .slice tka tkn tkc, .slice tna tns.length tnc, .slice ta tl.length tcc] 28)).drew) gb #[.int .i64 12, .int .i64 0, .string ⟨#[]⟩, .slice none 0 0, .slice none 0 0, .slice (some ⟨w6.heap.size, 0, none⟩) 2 2])
        have hkD : w6.drew.heap[gb]? = some (.cells #[.int .i64 pop, .int .i64 pn, .string ps, .slice pka pkn pkc, .slice pna pns.length pnc, .slice pa pl.length pcc] 28) := kG
        refine wp_region_held_drew (S := (fun w9 => w9.cell? ⟨b8, off8 + j * 6, none⟩ = some (.int .i64 top)/\w9.cell? ⟨b8, off8 + j * 6 + 1, none⟩ = some (.int .i64 tn)/\w9.cell? ⟨b8, off8 + j * 6 + 2, none⟩ = some (.string ts)/\w9.cell? ⟨b8, off8 + j * 6 + 3, none⟩ = some (.slice tka tkn tkc)/\w9.cell? ⟨b8, off8 + j * 6 + 4, none⟩ = some (.slice tna tns.length tnc)/\w9.cell? ⟨b8, off8 + j * 6 + 5, none⟩ = some (.slice ta tl.length tcc))) (by kernel_rfl) (HSS.out _ (fNQ hgD _)) (fun hHeld => ?_)
        refine tks (b := ?_) (by kernel_rfl) (fun _ _ _ _ _ h => h) (HSS.out _ (fNQ hgD _)) 4 [1, 2, 3, 4] (by kernel_rfl) ?_ ?_
        rotate_left
        ·iterate 4 (refine yc (v := ?_) rfl rfl (by rfl) (fun w9 hSw => ?_) ?_; rotate_left; (focus go_simp; try rfl); simp only [Act.put, l1Q, l2Q, l3Q])
         exact rfl
        refine rd1 0 (by kernel_rfl) (by rfl) (fun K hK => ?_)
        obtain ⟨p0, p1, p2, p3, p4, p5⟩ := cnQ hkD
        go_simp
        refine hK.out _ _ (HSS.out _ (fNQ hgD _)) (fun _ => ?_)
        clear hK K p0 p1 p2 p3 p4 p5
        refine rd1 5 (by kernel_rfl) (by rfl) (fun K hK => ?_)
        go_simp
        refine hK.out _ _ (HSS.out _ (fNQ hgR _)) (fun _ => ?_)
        clear hK K
        refine tks (b := ?_) (by kernel_rfl) (fun _ _ _ _ _ h => h) (HSS.out _ (fNQ hgR _)) 1 [6] (by kernel_rfl) ?_ ?_
        rotate_left
        ·refine yc (v := ?_) rfl rfl (by rfl) (fun w9 hSw => ?_) ?_; rotate_left; (focus go_simp; try rfl); simp only [Act.put, l1Q, l2Q, l3Q]
         exact rfl
        refine held_store 7 (by kernel_rfl) (by rfl) (by rfl) (by rfl) 28 _ _ (by rfl) gb #[.int .i64 12, .int .i64 0, .string ⟨#[]⟩, .slice none 0 0, .slice none 0 0, .slice (some ⟨w6.heap.size, 0, none⟩) 2 2] (by rfl) (by rfl) 28 _ kG8 cIQ rfl (all_one _ rfl) (HSS.out _ hgS) ?_
        refine wpAnyH_done (by kernel_rfl) ?_ _
        have kN : (((w6.alloc (.cells #[.int .i64 pop, .int .i64 pn, .string ps, .slice pka pkn pkc, .slice pna pns.length pnc, .slice pa pl.length pcc, .int .i64 top, .int .i64 tn, .string ts, .slice tka tkn tkc, .slice tna tns.length tnc, .slice ta tl.length tcc] 28)).drew).setRow gb #[.int .i64 12, .int .i64 0, .string ⟨#[]⟩, .slice none 0 0, .slice none 0 0, .slice (some ⟨w6.heap.size, 0, none⟩) 2 2]).heap[w6.heap.size]? = some (.cells (cEQ (ConD.mk pop pn ps pk (.slice pna pns.length pnc) pns (.slice pa pl.length pcc) pl) ++ cEQ (ConD.mk top tn ts tk (.slice tna tns.length tnc) tns (.slice ta tl.length tcc) tl)).toArray 28) := by
         rw [HGE.out, HTC.out]
         exact (setRow_other _ _ _ _ (by omega)).trans (nHQ w6 (.cells #[.int .i64 pop, .int .i64 pn, .string ps, .slice pka pkn pkc, .slice pna pns.length pnc, .slice pa pl.length pcc, .int .i64 top, .int .i64 tn, .string ts, .slice tka tkn tkc, .slice tna tns.length tnc, .slice ta tl.length tcc] 28))
        have HND : Hid (IsCon (fun b => (b ≠ w.heap.size/\b ≠ w.heap.size + 1)/\b ≠ gb) (((w6.alloc (.cells #[.int .i64 pop, .int .i64 pn, .string ps, .slice pka pkn pkc, .slice pna pns.length pnc, .slice pa pl.length pcc, .int .i64 top, .int .i64 tn, .string ts, .slice tka tkn tkc, .slice tna tns.length tnc, .slice ta tl.length tcc] 28)).drew).setRow gb #[.int .i64 12, .int .i64 0, .string ⟨#[]⟩, .slice none 0 0, .slice none 0 0, .slice (some ⟨w6.heap.size, 0, none⟩) 2 2]) (ConD.mk 12 0 ⟨#[]⟩ (.mk (.slice none 0 0) []) (.slice none 0 0) [] (.slice (some ⟨w6.heap.size, 0, none⟩) 2 2) [(ConD.mk pop pn ps pk (.slice pna pns.length pnc) pns (.slice pa pl.length pcc) pl), (ConD.mk top tn ts tk (.slice tna tns.length tnc) tns (.slice ta tl.length tcc) tl)])/\pC (ConD.mk 12 0 ⟨#[]⟩ (.mk (.slice none 0 0) []) (.slice none 0 0) [] (.slice (some ⟨w6.heap.size, 0, none⟩) 2 2) [(ConD.mk pop pn ps pk (.slice pna pns.length pnc) pns (.slice pa pl.length pcc) pl), (ConD.mk top tn ts tk (.slice tna tns.length tnc) tns (.slice ta tl.length tcc) tl)]) = ((ds.take (j + 1)).map pC).foldl appC T) := by
         refine ⟨app_con (HG6.out.grown hgS (fun q hq hp => hp.2 (oJQ hq).symm)) (HT8'.out.grown hgS (fun q hq hp => hp.2 (oJQ hq).symm)) ⟨by have := HBW6.out.size; have := HS1.out; have := HS13.out; have := HB34.out.size; exact ⟨by omega, by omega⟩, by omega⟩ kN, ?_⟩
         rw [app_pure, fold_take appC T ds j (by rw [HM.out]; exact hj), HQ8.out, hpg.out]
        have HNB : Hid ((((w6.alloc (.cells #[.int .i64 pop, .int .i64 pn, .string ps, .slice pka pkn pkc, .slice pna pns.length pnc, .slice pa pl.length pcc, .int .i64 top, .int .i64 tn, .string ts, .slice tka tkn tkc, .slice tna tns.length tnc, .slice ta tl.length tcc] 28)).drew).setRow gb #[.int .i64 12, .int .i64 0, .string ⟨#[]⟩, .slice none 0 0, .slice none 0 0, .slice (some ⟨w6.heap.size, 0, none⟩) 2 2]).heap[gb]? = some (.cells (cEQ (ConD.mk 12 0 ⟨#[]⟩ (.mk (.slice none 0 0) []) (.slice none 0 0) [] (.slice (some ⟨w6.heap.size, 0, none⟩) 2 2) [(ConD.mk pop pn ps pk (.slice pna pns.length pnc) pns (.slice pa pl.length pcc) pl), (ConD.mk top tn ts tk (.slice tna tns.length tnc) tns (.slice ta tl.length tcc) tl)])).toArray 28)) := setRow_heap _ gb _ #[.int .i64 12, .int .i64 0, .string ⟨#[]⟩, .slice none 0 0, .slice none 0 0, .slice (some ⟨w6.heap.size, 0, none⟩) 2 2] _ _ kG8
        have HNV := hJQ (HBV.out.trans (gUQ hgS HBV.out.size (fun q hq => by have e2 : gb = q := oJQ hq; omega)))
        clear hgR hgS kN hgD kG8 hkD HSS hHeld
        generalize ((w6.alloc (.cells #[.int .i64 pop, .int .i64 pn, .string ps, .slice pka pkn pkc, .slice pna pns.length pnc, .slice pa pl.length pcc, .int .i64 top, .int .i64 tn, .string ts, .slice tka tkn tkc, .slice tna tns.length tnc, .slice ta tl.length tcc] 28)).drew).setRow gb #[.int .i64 12, .int .i64 0, .string ⟨#[]⟩, .slice none 0 0, .slice none 0 0, .slice (some ⟨w6.heap.size, 0, none⟩) 2 2] = w7 at *
        go_wp2_with fail
        go_roundg K2
        case measure => omega
        case rel => exact ⟨j + 1, (ConD.mk 12 0 ⟨#[]⟩ (.mk (.slice none 0 0) []) (.slice none 0 0) [] (.slice (some ⟨w6.heap.size, 0, none⟩) 2 2) [(ConD.mk pop pn ps pk (.slice pna pns.length pnc) pns (.slice pa pl.length pcc) pl), (ConD.mk top tn ts tk (.slice tna tns.length tnc) tns (.slice ta tl.length tcc) tl)]), by go_num, (Nat.add_right_comm j 1 K2).trans hjm, HND, HNB, HNV⟩
       ·have hje : n9 = j := by omega
        subst hje
        have htk : ds.take n9 = ds := by rw [← HM.out]; exact List.take_length
        have hpe := hpg.out
        rw [htk] at hpe
        have hbn := fold_bnd (ds.map pC) T HBT.out HDV.out.2
        have HNC : Hid (Calls Tryz.prog 11 #[.agg #[.int .i64 pop, .int .i64 pn, .string ps, .slice pka pkn pkc, .slice pna pns.length pnc, .slice pa pl.length pcc]] w6 (RTameOk (fun b => b ≠ w.heap.size + 1) ((ds.map pC).foldl appC T) w6)) := by
         have := rtame_any (fun b => b ≠ w.heap.size + 1) (ConD.mk pop pn ps pk (.slice pna pns.length pnc) pns (.slice pa pl.length pcc) pl) w6 (fun b hb => by have := HBWV.out.size; have := HS1.out; have := HS13.out; have := HB34.out.size; have := HBV.out.size; omega) (HG6.out.mono (fun b hb _ => hb.1.2)) (by rw [hpe]; exact hbn)
         rw [HGV.out, hpe] at this
         exact this
        obtain ⟨p0, p1, p2, p3, p4, p5⟩ := cnQ kG
        have hgl := hLQ HKG.out
        clear hbn hpe htk hb36 hpg
        go_wp2_with fail
        refine HNC.out.mono ?_
        rintro e w7 ⟨dn, bt, rfl, hdn, hb7, hn1, hn2, hn3⟩
        obtain ⟨oop, on, os, ok, ons, ol, oka, okn, okc, ona, onc, oa, occ, rfl, hok, _⟩ := cSQ hdn
        have HOV := hJQ (cVQ (op := oop) (n := on) (s := os) (nv := .slice ona ons.length onc) (lv := .slice oa ol.length occ) (ns := ons) (l := ol) hok)
        rw [HOV.out]
        have hbw7 := HBW6.out.trans (hb7.mono HBW6.out.size)
        have hlR := hLQ HRV.out
        have kR7 := (hb7.block _ (by have := HBV.out.size; omega)).trans ((HBV.out.block _ hlR).trans HRV.out)
        obtain ⟨hgA, kA, hrA, kO, hb78⟩ := fresh_put w7 #[.int .i64 oop, .int .i64 on, .string os, .slice oka okn okc, .slice ona ons.length onc, .slice oa ol.length occ]
        have kR8 := (hb78.block _ (hLQ kR7)).trans kR7
        have hbw8 := hbw7.trans (hb78.mono hbw7.size)
        have HDO := hJQ (iBQ hdn hb78)
        have HUT : Hid ((bt = false/\Rr = (zeroN, 27)) ∨ (bt = true/\Rr = (pC (ConD.mk oop on os ok (.slice ona ons.length onc) ons (.slice oa ol.length occ) ol), 0))) := by
         have hR := HUN.out
         cases hv : valC ((ds.map pC).foldl appC T) with
         | false =>
           refine .inl ⟨hn1 hv, ?_⟩
           rw [hR]; unfold tameOf; rw [if_neg (by rw [hv]; decide)]; rfl
         | true =>
           cases ht : tameN ((ds.map pC).foldl appC T) with
           | none =>
             refine .inl ⟨hn2 hv ht, ?_⟩
             rw [hR]; unfold tameOf; rw [if_pos hv, ht]; rfl
           | some ym =>
             refine .inr ⟨(hn3 hv ym.1 ym.2 ht).1, ?_⟩
             rw [hR, (hn3 hv ym.1 ym.2 ht).2]; unfold tameOf; rw [if_pos hv, ht]; rfl
        clear hgA hrA hdn hn1 hn2 hn3 p0 p1 p2 p3 p4 p5 HNC kG hok hb78
        go_upto_region 17 with (refine wpList_store_row rfl 28 _ _ rfl w7.heap.size _ rfl rfl 28 _ kA cIQ rfl (all_one _ rfl) ?_)
        clear kA
        generalize (w7.alloc (.cells #[.int .i64 0, .int .i64 0, .string ⟨#[]⟩, .slice none 0 0, .slice none 0 0, .slice none 0 0] 28)).setRow w7.heap.size #[.int .i64 oop, .int .i64 on, .string os, .slice oka okn okc, .slice ona ons.length onc, .slice oa ol.length occ] = w8 at *
        rcases HUT.out with ⟨h0, hr0⟩ | ⟨h0, hr0⟩
        ·subst h0
         have HZR := hJQ hr0
         clear hr0
         obtain ⟨HRF, HBF⟩ := put_res hbw8 kR8 #[.int .i64 0, .int .i64 0, .string ⟨#[]⟩, .slice none 0 0, .slice none 0 0, .slice none 0 0]
         go_wp2_with (refine wpList_store_row rfl 28 _ _ rfl (w.heap.size + 1) _ rfl rfl 28 _ kR8 cIQ rfl (all_one _ rfl) ?_)
         exact bodyPost_ret (res2 rfl rfl rfl HRF.out) rfl (pair_zero HBF.out (HZR.out))
        ·subst h0
         have HZR := hJQ hr0
         obtain ⟨o0, o1, o2, o3, o4, o5⟩ := cnQ kO
         have hltR := hLQ kR8
         have hrow := gRQ w8 (w.heap.size + 1) #[.int .i64 oop, .int .i64 on, .string os, .slice oka okn okc, .slice ona ons.length onc, .slice oa ol.length occ]
         have HRF := hJQ (setRow_heap w8 (w.heap.size + 1) _ #[.int .i64 oop, .int .i64 on, .string os, .slice oka okn okc, .slice ona ons.length onc, .slice oa ol.length occ] _ _ kR8)
         have HBF := hJQ (hbw8.trans (gUQ (B := w.heap.size) hrow hbw8.size (fun q hq => by have e2 : w.heap.size + 1 = q := oJQ hq; omega)))
         have HDF := hJQ ((HDO.out.grown hrow (fun q hq hp => hp (oJQ hq).symm)).mono (Q := fun _ => True) (fun b hb _ => trivial))
         clear hrow hr0
         go_wp2_with (refine wpList_store_row rfl 28 _ _ rfl (w.heap.size + 1) _ rfl rfl 28 _ kR8 cIQ rfl (all_one _ rfl) ?_)
         refine bodyPost_ret (res2 rfl rfl rfl HRF.out) rfl (pairOk HOV.out.symm HDF.out (by rw [HZR.out]) HBF.out (by rw [HZR.out]))
   ·have hf' : (zop != 13) = true := nNQ hf
    have HZR : Hid (Rr = (zeroN, 12)) := by show _ = _; rw [HUR.out, unroll_no]; rw [← HPD.out, pMQ]; exact hf
    obtain ⟨HRF, HBF⟩ := put_res hbwv kRV #[.int .i64 0, .int .i64 0, .string ⟨#[]⟩, .slice none 0 0, .slice none 0 0, .slice none 0 0]
    go_wp2_with (refine wpList_store_row rfl 28 _ _ rfl (w.heap.size + 1) _ rfl rfl 28 _ kRV cIQ rfl (all_one _ rfl) ?_)
    exact bodyPost_ret (res2 rfl rfl rfl HRF.out) rfl (pair_zero HBF.out (HZR.out))
end Go.Proofs.YtkiffgdinmpljaaGreatDoor
