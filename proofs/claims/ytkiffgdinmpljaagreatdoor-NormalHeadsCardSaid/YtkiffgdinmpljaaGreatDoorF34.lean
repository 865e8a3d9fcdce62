/- normal.Unroll. Printed by gen_unroll.py, expanded by mac.py. -/
import Derived.Test.YtkiffgdinmpljaaGreatDoorF33
import Derived.Test.YtkiffgdinmpljaaGreatDoorF23
import Derived.Test.YtkiffgdinmpljaaGreatDoorF30
set_option linter.unusedVariables false
set_option linter.unusedSimpArgs false
namespace Go.Proofs.YtkiffgdinmpljaaGreatDoor
open Go Go.RowKit
set_option maxHeartbeats 8000000
set_option maxRecDepth 100000
def tameOf (T : Cn) : Option Cn := if valC T = true then (tameN T).map Prod.fst else none
def unrollN (y : Cn) : Cn × Int :=
 if (spineC y).1.op = 13 then orBudget (tameOf ((spineC y).2.foldl appC (sC9 [(spineC y).1] 0 ((spineC y).1.l.getD 0 default)))) else (zeroN, 12)
def unrollR (c : Cn) : Cn × Int :=
 if valC c = true then (match tameN c with | none => (zeroN, 27) | some (y, _) => unrollN y) else (zeroN, 1)
theorem unroll_mu {y : Cn} (h : (spineC y).1.op = 13) : unrollN y = orBudget (tameOf ((spineC y).2.foldl appC (sC9 [(spineC y).1] 0 ((spineC y).1.l.getD 0 default)))) := if_pos h
theorem unroll_no {y : Cn} (h : (spineC y).1.op ≠ 13) : unrollN y = (zeroN, 12) := if_neg h
theorem tame_valid {c y : Cn} {m : Nat} (hv : valC c = true) (h : tameN c = some (y, m)) : valC y = true := by
 have h3 := (val_iff.1 hv).2.2
 have hsm := smallC_iff.1 (norm_small deepF c 10000 y m h3 h)
 exact val_iff.2 ⟨hsm.1, hsm.2, (norm_form cstB labsB deepF c 10000 y m h3 h).1⟩
theorem unroll_any (P : Nat->Prop) (x : ConD) (w : World) (hE : EnvN w) (h : IsCon P w x) (hb : bndC (pC x)) (hsz : sizeC (pC x)<=1000000000) :
 Calls Tryz.prog 15 #[conV x] w (PairOk (fun b => w.heap.size<=b) (unrollR (pC x)) w) := by
 obtain ⟨xop, xn, xs, xk, xns, xl, xka, xkn, xkc, xna, xnc, xa, xcc, rfl, hxk, _⟩ := cSQ h
 have HXV := hJQ (cVQ (op := xop) (n := xn) (s := xs) (nv := .slice xna xns.length xnc) (lv := .slice xa xl.length xcc) (ns := xns) (l := xl) hxk)
 rw [HXV.out]
 obtain ⟨g1, kR, kB, hbW, hsW⟩ := two_box (nHQ w (.cells #[.int .i64 xop, .int .i64 xn, .string xs, .slice xka xkn xkc, .slice xna xns.length xnc, .slice xa xl.length xcc] 28))
 have HSW := hJQ hsW
 clear hsW
 have HNC : Hid (∀ U, Below w.heap.size w U->Calls Tryz.prog 8 #[.agg #[.int .i64 xop, .int .i64 xn, .string xs, .slice xka xkn xkc, .slice xna xns.length xnc, .slice xa xl.length xcc]] U (NormalOk (pC (ConD.mk xop xn xs xk (.slice xna xns.length xnc) xns (.slice xa xl.length xcc) xl)) U)) := fun U hU => by
  have := normal_any P (ConD.mk xop xn xs xk (.slice xna xns.length xnc) xns (.slice xa xl.length xcc) xl) U (hE.below hU) (iBQ h hU) hb hsz
  rw [HXV.out] at this
  exact this
 have HE := hJQ hE
 have HBX := hJQ hb
 obtain ⟨c0, c1, c2, c3, c4, c5⟩ := cnQ kB
 have HB0 := hJQ kB
 have HR0 := hJQ kR
 obtain ⟨Rr, hRr⟩ : ∃ r, unrollR (pC (ConD.mk xop xn xs xk (.slice xna xns.length xnc) xns (.slice xa xl.length xcc) xl)) = r := ⟨_, rfl⟩
 have HRR := hJQ hRr
 rw [hRr]
 clear h hb hsz hE g1 kB kR hxk hRr HXV
 generalize pC (ConD.mk xop xn xs xk (.slice xna xns.length xnc) xns (.slice xa xl.length xcc) xl) = TX at *
 go_enter Tryz.func15, Tryz.ntmps15
 go_upto_region 1 with fail
 generalize ((w.alloc (.cells #[.int .i64 xop, .int .i64 xn, .string xs, .slice xka xkn xkc, .slice xna xns.length xnc, .slice xa xl.length xcc] 28)).alloc (.cells #[.int .i64 0, .int .i64 0, .string ⟨#[]⟩, .slice none 0 0, .slice none 0 0, .slice none 0 0] 28)) = W at *
 go_wp2_with fail
 refine (HNC.out _ hbW).mono ?_
 rintro e w2 ⟨dn, er, rfl, hdn, hb2, hn1, hn2, hn3⟩
 obtain ⟨yop, yn, ys, yk, yns, yl, yka, ykn, ykc, yna, ync, ya, ycc, rfl, hyk, _⟩ := cSQ hdn
 have HYV := hJQ (cVQ (op := yop) (n := yn) (s := ys) (nv := .slice yna yns.length ync) (lv := .slice ya yl.length ycc) (ns := yns) (l := yl) hyk)
 rw [HYV.out]
 have hbw := hbW.trans (hb2.mono hbW.size)
 have k2 := (hb2.block _ (hLQ HB0.out)).trans HB0.out
 have kR2 := (hb2.block _ (hLQ HR0.out)).trans HR0.out
 have hs2 := hb2.size
 have hrow := gRQ w2 w.heap.size #[.int .i64 yop, .int .i64 yn, .string ys, .slice yka ykn ykc, .slice yna yns.length ync, .slice ya yl.length ycc]
 have kY := setRow_heap w2 w.heap.size _ #[.int .i64 yop, .int .i64 yn, .string ys, .slice yka ykn ykc, .slice yna yns.length ync, .slice ya yl.length ycc] _ _ k2
 have kR3 := (hrow.block (w.heap.size + 1) (hLQ kR2) (fun e => by have e2 : w.heap.size + 1 = w.heap.size := oJQ e; omega)).trans kR2
 have hbw1 := hbw.trans (gUQ (B := w.heap.size) hrow hbw.size (fun q hq => by have e2 : w.heap.size = q := oJQ hq; omega))
 have HDY := hJQ ((hdn.grown hrow (fun q hq hp => by have e2 : w.heap.size = q := oJQ hq; have hp : W.heap.size<=q := hp; have := HSW.out; omega)).mono (Q := (fun b => b ≠ w.heap.size/\b ≠ w.heap.size + 1)) (fun b hb _ => by have hb : W.heap.size<=b := hb; have := HSW.out; exact ⟨by omega, by omega⟩))
 have HUT : Hid ((er ≠ 0/\Rr = (zeroN, er)) ∨ (er = 0/\valC (pC (ConD.mk yop yn ys yk (.slice yna yns.length ync) yns (.slice ya yl.length ycc) yl)) = true/\bndC (pC (ConD.mk yop yn ys yk (.slice yna yns.length ync) yns (.slice ya yl.length ycc) yl))/\Rr = unrollN (pC (ConD.mk yop yn ys yk (.slice yna yns.length ync) yns (.slice ya yl.length ycc) yl)))) := by
  have hR := HRR.out.symm
  unfold unrollR at hR
  cases hv : valC TX with
  | false =>
    obtain ⟨_, rfl⟩ := hn1 hv
    exact .inl ⟨by decide, by rw [hR, if_neg (by rw [hv]; decide)]⟩
  | true =>
    rw [if_pos hv] at hR
    cases ht : tameN TX with
    | none =>
      obtain ⟨_, rfl⟩ := hn2 hv ht
      exact .inl ⟨by decide, by rw [hR, ht]⟩
    | some ym =>
      obtain ⟨hp, rfl⟩ := hn3 hv ym.1 ym.2 ht
      refine .inr ⟨rfl, ?_, ?_, ?_⟩
      ·rw [hp]; exact tame_valid hv ht
      ·rw [hp]; exact norm_bnd deepF _ 10000 ym.1 ym.2 (val_iff.1 hv).2.2 HBX.out ht
      ·rw [hR, ht, hp]
 have HS1 : Hid (w.heap.size + 2<=(w2.setRow w.heap.size #[.int .i64 yop, .int .i64 yn, .string ys, .slice yka ykn ykc, .slice yna yns.length ync, .slice ya yl.length ycc]).heap.size) := by have := HSW.out; have := hrow.size; show _<=_; omega
 clear hrow hdn hn1 hn2 hn3 c0 c1 c2 c3 c4 c5 HNC hyk hbw hbW hb2 hs2 HB0 HR0
 go_upto_region 2 with (refine wpList_store_row rfl 28 _ _ rfl w.heap.size _ rfl rfl 28 _ k2 cIQ rfl (all_one _ rfl) ?_)
 clear k2 kR2
 generalize (w2.setRow w.heap.size #[.int .i64 yop, .int .i64 yn, .string ys, .slice yka ykn ykc, .slice yna yns.length ync, .slice ya yl.length ycc]) = V1 at *
 rcases HUT.out with ⟨h0, hr0⟩ | ⟨h0, hvy, hby, hr0⟩
 ·have hne : (er != 0) = true := nNQ h0
  have HZR := hJQ hr0
  clear hr0 h0
  obtain ⟨HRF, HBF⟩ := put_res hbw1 kR3 #[.int .i64 0, .int .i64 0, .string ⟨#[]⟩, .slice none 0 0, .slice none 0 0, .slice none 0 0]
  go_wp2_with (refine wpList_store_row rfl 28 _ _ rfl (w.heap.size + 1) _ rfl rfl 28 _ kR3 cIQ rfl (all_one _ rfl) ?_)
  exact bodyPost_ret (res2 rfl rfl rfl HRF.out) rfl (pair_zero HBF.out (HZR.out))
 ·subst h0
  have HUR := hJQ hr0
  have hzy := (val_iff.1 hvy).1
  have hfy := (val_iff.1 hvy).2.2
  have HSP : Hid (Calls Tryz.prog 35 #[.agg #[.int .i64 yop, .int .i64 yn, .string ys, .slice yka ykn ykc, .slice yna yns.length ync, .slice ya yl.length ycc]] V1 (SpOk (pC (ConD.mk yop yn ys yk (.slice yna yns.length ync) yns (.slice ya yl.length ycc) yl)) V1)) := by
   have := spine_any (fun b => b ≠ w.heap.size/\b ≠ w.heap.size + 1) (ConD.mk yop yn ys yk (.slice yna yns.length ync) yns (.slice ya yl.length ycc) yl) V1 (HE.out.below hbw1) HDY.out hby hvy
   rw [HYV.out] at this
   exact this
  have HSV := hJQ (And.intro (spine_val hvy) (spine_bnd hfy hby))
  have HFY := hJQ (spineN_len (sizeC (pC (ConD.mk yop yn ys yk (.slice yna yns.length ync) yns (.slice ya yl.length ycc) yl))) (pC (ConD.mk yop yn ys yk (.slice yna yns.length ync) yns (.slice ya yl.length ycc) yl)) [] hfy)
  have HZY := hJQ hzy
  have HBW1 := hJQ hbw1
  have HR3 := hJQ kR3
  have HY2 := hJQ kY
  clear hr0 hvy hby hzy hfy HUT HRR HYV HDY hbw1 kR3
  generalize pC (ConD.mk yop yn ys yk (.slice yna yns.length ync) yns (.slice ya yl.length ycc) yl) = TY at *
  obtain ⟨c0, c1, c2, c3, c4, c5⟩ := cnQ kY
  clear kY
  go_wp2_with fail
  refine HSP.out.mono ?_
  rintro e w3 ⟨dd, oa, oc, ds, rfl, hdd, hpd, hL, hpl, hb3⟩
  have hdz := hdd
  obtain ⟨zop, zn, zs, zk, zns, zl, zka, zkn, zkc, zna, znc, za, zcc, rfl, hzk, _⟩ := cSQ hdd
  rw [cVQ (op := zop) (n := zn) (s := zs) (nv := .slice zna zns.length znc) (lv := .slice za zl.length zcc) (ns := zns) (l := zl) hzk]
  obtain ⟨hgZ, kZ, hrow, kZ2, hb34⟩ := fresh_put w3 #[.int .i64 zop, .int .i64 zn, .string zs, .slice zka zkn zkc, .slice zna zns.length znc, .slice za zl.length zcc]
  have HS13 : Hid (V1.heap.size<=w3.heap.size) := hb3.size
  have hb4 := hb3.trans (hb34.mono HS13.out)
  have kRV := (hb4.block _ (hLQ HR3.out)).trans HR3.out
  have HRV := hJQ kRV
  have hbwv := HBW1.out.trans (hb4.mono HBW1.out.size)
  have HBWV := hJQ hbwv
  have HB34 := hJQ hb34
  have HZ2 := hJQ kZ2
  have HPD := hJQ hpd
  have HPL := hJQ hpl
  have HDZ := hJQ hdz
  have HL := hJQ hL
  have HZK0 := hJQ hzk
  clear hgZ hrow kZ2 hb4 hb34 hdd hpd hL hpl hb3 hzk hdz HSP
  go_upto_region 5 with (refine wpList_store_row rfl 28 _ _ rfl w3.heap.size _ rfl rfl 28 _ kZ cIQ rfl (all_one _ rfl) ?_)
  clear kZ c0 c1 c2 c3 c4 c5
  generalize ((w3.alloc (.cells #[.int .i64 0, .int .i64 0, .string ⟨#[]⟩, .slice none 0 0, .slice none 0 0, .slice none 0 0] 28)).setRow w3.heap.size #[.int .i64 zop, .int .i64 zn, .string zs, .slice zka zkn zkc, .slice zna zns.length znc, .slice za zl.length zcc]) = V at *
  obtain ⟨z0, z1, z2, z3, z4, z5⟩ := cnQ HZ2.out
  have HSV2 := HSV.out
  rw [← HPD.out, ← HPL.out] at HSV2
  have HSV3 := hJQ HSV2
  clear HSV2 HSV
  by_cases hf : zop = 13
  ·subst hf
   have HOP : Hid ((spineC TY).1.op = 13) := by show _ = _; rw [← HPD.out, pMQ]; rfl
   have HSTP := HSV3.out
   obtain ⟨q, rfl⟩ : ∃ q, zl = [q] := one_part (k := pK zk) (by have := (val_iff.1 HSTP.1.1).2.2; rw [pMQ] at this; exact this) rfl
   have hqr := part_0 (x := q) (l := []) HDZ.out.parts.row
   have hqc := HDZ.out.parts.all q (by simp)
   obtain ⟨qop, qn, qs, qk, qns, ql, qka, qkn, qkc, qna, qnc, qa, qcc, rfl, hqk, _⟩ := cSQ hqc
   obtain ⟨b, off, rfl, ⟨hPb, hbl⟩, q0, q1, q2, q3, q4, q5⟩ := hqr
   rw [show (ConD.mk qop qn qs qk (.slice qna qns.length qnc) qns (.slice qa ql.length qcc) ql).k.v = _ from hqk] at q3
   have HQC : Hid (w3.cell? ⟨b, off, none⟩ = some (.int .i64 qop)/\w3.cell? ⟨b, off + 1, none⟩ = some (.int .i64 qn)/\w3.cell? ⟨b, off + 2, none⟩ = some (.string qs)/\w3.cell? ⟨b, off + 3, none⟩ = some (.slice qka qkn qkc)/\w3.cell? ⟨b, off + 4, none⟩ = some (.slice qna qns.length qnc)/\w3.cell? ⟨b, off + 5, none⟩ = some (.slice qa ql.length qcc)) := ⟨q0, q1, q2, q3, q4, q5⟩
   have HZP : Hid (pC (ConD.mk 13 zn zs zk (.slice zna zns.length znc) zns (.slice (some ⟨b, off, none⟩) [(ConD.mk qop qn qs qk (.slice qna qns.length qnc) qns (.slice qa ql.length qcc) ql)].length zcc) [(ConD.mk qop qn qs qk (.slice qna qns.length qnc) qns (.slice qa ql.length qcc) ql)]) = .mk 13 zn zs (pK zk) zns [pC (ConD.mk qop qn qs qk (.slice qna qns.length qnc) qns (.slice qa ql.length qcc) ql)]) := pMQ ..
   have hvz := HSTP.1.1
   have hbz := HSTP.2.1
   rw [HZP.out] at HSTP
   have hvq := (val_part HSTP.1.1 (x := pC (ConD.mk qop qn qs qk (.slice qna qns.length qnc) qns (.slice qa ql.length qcc) ql)) (by simp)).1
   have hbq := bnd_part HSTP.2.1 (x := pC (ConD.mk qop qn qs qk (.slice qna qns.length qnc) qns (.slice qa ql.length qcc) ql)) (by simp)
   have HDV := hJQ (And.intro HSTP.1.2 HSTP.2.2)
   have hbT := bnd_subst [pC (ConD.mk 13 zn zs zk (.slice zna zns.length znc) zns (.slice (some ⟨b, off, none⟩) [(ConD.mk qop qn qs qk (.slice qna qns.length qnc) qns (.slice qa ql.length qcc) ql)].length zcc) [(ConD.mk qop qn qs qk (.slice qna qns.length qnc) qns (.slice qa ql.length qcc) ql)])] (fun x hx => by rw [List.mem_singleton.1 hx]; exact hbz) (pC (ConD.mk qop qn qs qk (.slice qna qns.length qnc) qns (.slice qa ql.length qcc) ql)) 0 hbq
   obtain ⟨T, hT⟩ : ∃ T, sC9 [pC (ConD.mk 13 zn zs zk (.slice zna zns.length znc) zns (.slice (some ⟨b, off, none⟩) [(ConD.mk qop qn qs qk (.slice qna qns.length qnc) qns (.slice qa ql.length qcc) ql)].length zcc) [(ConD.mk qop qn qs qk (.slice qna qns.length qnc) qns (.slice qa ql.length qcc) ql)])] 0 (pC (ConD.mk qop qn qs qk (.slice qna qns.length qnc) qns (.slice qa ql.length qcc) ql)) = T := ⟨_, rfl⟩
   rw [hT] at hbT
   have HUN : Hid (Rr = orBudget (tameOf ((ds.map pC).foldl appC T))) := by
    show _ = _
    rw [HUR.out, unroll_mu HOP.out, ← HPD.out, HZP.out, ← HPL.out, ← hT, HZP.out]; rfl
   have HQV := hJQ (cVQ (op := qop) (n := qn) (s := qs) (nv := .slice qna qns.length qnc) (lv := .slice qa ql.length qcc) (ns := qns) (l := ql) hqk)
   have HCZ : Hid (cEQ (ConD.mk 13 zn zs zk (.slice zna zns.length znc) zns (.slice (some ⟨b, off, none⟩) [(ConD.mk qop qn qs qk (.slice qna qns.length qnc) qns (.slice qa ql.length qcc) ql)].length zcc) [(ConD.mk qop qn qs qk (.slice qna qns.length qnc) qns (.slice qa ql.length qcc) ql)]) = [.int .i64 13, .int .i64 zn, .string zs, .slice zka zkn zkc, .slice zna zns.length znc, .slice (some ⟨b, off, none⟩) 1 zcc]) := by show [_, _, _, zk.v, _, _] = _; rw [HZK0.out]; rfl
   have HSU : Hid (∀ (g : Nat) U, Below V.heap.size V U->V.heap.size<=g->U.heap[g]? = some (.cells #[.int .i64 13, .int .i64 zn, .string zs, .slice zka zkn zkc, .slice zna zns.length znc, .slice (some ⟨b, off, none⟩) 1 zcc] 28 (0, 0))->Calls Tryz.prog 36 #[.agg #[.int .i64 qop, .int .i64 qn, .string qs, .slice qka qkn qkc, .slice qna qns.length qnc, .slice qa ql.length qcc], .slice (some ⟨g, 0, none⟩) 1 1] U (ReplOk T U)) := fun g U hU hg hk => by
    have hU3 : Below w3.heap.size w3 U := HB34.out.trans (hU.mono HB34.out.size)
    have := subst_any (fun _ => True) (ConD.mk qop qn qs qk (.slice qna qns.length qnc) qns (.slice qa ql.length qcc) ql) (some ⟨g, 0, none⟩) 1 [(ConD.mk 13 zn zs zk (.slice zna zns.length znc) zns (.slice (some ⟨b, off, none⟩) [(ConD.mk qop qn qs qk (.slice qna qns.length qnc) qns (.slice qa ql.length qcc) ql)].length zcc) [(ConD.mk qop qn qs qk (.slice qna qns.length qnc) qns (.slice qa ql.length qcc) ql)])] U (HE.out.below (HBWV.out.trans (hU.mono HBWV.out.size))) ((iBQ hqc hU3).mono (fun _ _ _ => trivial)) hvq hbq (rHQ hk trivial _ (by rw [one_enc, HCZ.out]) 1 1 (nLQ _)) (fun x hx => by rw [List.mem_singleton.1 hx]; exact (iBQ HDZ.out hU3).mono (fun _ _ _ => trivial)) (fun x hx => by rw [List.mem_singleton.1 hx]; exact ⟨hvz, hbz⟩) (by simp) (by rw [List.map_cons, List.map_nil, hT]; exact hbT)
    rw [HQV.out, List.map_cons, List.map_nil, hT] at this
    exact this
   have HSS : Hid (∀ U, Below V.heap.size V U->(fun w9 => w9.cell? ⟨w3.heap.size, 0, none⟩ = some (.int .i64 13)/\w9.cell? ⟨w3.heap.size, 1, none⟩ = some (.int .i64 zn)/\w9.cell? ⟨w3.heap.size, 2, none⟩ = some (.string zs)/\w9.cell? ⟨w3.heap.size, 3, none⟩ = some (.slice zka zkn zkc)/\w9.cell? ⟨w3.heap.size, 4, none⟩ = some (.slice zna zns.length znc)/\w9.cell? ⟨w3.heap.size, 5, none⟩ = some (.slice (some ⟨b, off, none⟩) 1 zcc)/\w9.cell? ⟨b, off, none⟩ = some (.int .i64 qop)/\w9.cell? ⟨b, off + 1, none⟩ = some (.int .i64 qn)/\w9.cell? ⟨b, off + 2, none⟩ = some (.string qs)/\w9.cell? ⟨b, off + 3, none⟩ = some (.slice qka qkn qkc)/\w9.cell? ⟨b, off + 4, none⟩ = some (.slice qna qns.length qnc)/\w9.cell? ⟨b, off + 5, none⟩ = some (.slice qa ql.length qcc)) U) := fun U hU => by
    have hU3 : Below w3.heap.size w3 U := HB34.out.trans (hU.mono HB34.out.size)
    have hq : ∀ (o : Nat) (v : Value), w3.cell? ⟨b, o, none⟩ = some v->U.cell? ⟨b, o, none⟩ = some v := fun o v hc => (World.cell?_of_block (a := ⟨b, o, none⟩) (hU3.block b hbl)).trans hc
    obtain ⟨q0, q1, q2, q3, q4, q5⟩ := HQC.out
    obtain ⟨y0, y1, y2, y3, y4, y5⟩ := cnQ ((hU.block _ (hLQ HZ2.out)).trans HZ2.out)
    exact ⟨y0, y1, y2, y3, y4, y5, hq _ _ q0, hq _ _ q1, hq _ _ q2, hq _ _ q3, hq _ _ q4, hq _ _ q5⟩
   have HBT := hJQ hbT
   clear q0 q1 q2 q3 q4 q5 hqc hqk hvq hbq hvz hbz hbT hT HSTP HSV3 HQC HQV
   go_upto_region 9 with fail
   have hbD : Below V.heap.size V V.drew := (Below.refl _ _).drew
   go_cut [4, 7] (fun v4 v7 wx => ∃ (gb : Nat) (d : ConD) (er : Int), v4 = .int .i64 er/\v7 = .pointer (some ⟨gb, 0, none⟩)/\Hid (Below V.heap.size V wx/\IsCon (fun b => V.heap.size<=b/\b ≠ gb) wx d/\wx.heap[gb]? = some (.cells (cEQ d).toArray 28)/\V.heap.size<=gb/\(valC T = true->er = 0/\pC d = T)/\(valC T = false->er = 6)))
   case first =>
    refine wp_region_held_drew (S := (fun w9 => w9.cell? ⟨w3.heap.size, 0, none⟩ = some (.int .i64 13)/\w9.cell? ⟨w3.heap.size, 1, none⟩ = some (.int .i64 zn)/\w9.cell? ⟨w3.heap.size, 2, none⟩ = some (.string zs)/\w9.cell? ⟨w3.heap.size, 3, none⟩ = some (.slice zka zkn zkc)/\w9.cell? ⟨w3.heap.size, 4, none⟩ = some (.slice zna zns.length znc)/\w9.cell? ⟨w3.heap.size, 5, none⟩ = some (.slice (some ⟨b, off, none⟩) 1 zcc)/\w9.cell? ⟨b, off, none⟩ = some (.int .i64 qop)/\w9.cell? ⟨b, off + 1, none⟩ = some (.int .i64 qn)/\w9.cell? ⟨b, off + 2, none⟩ = some (.string qs)/\w9.cell? ⟨b, off + 3, none⟩ = some (.slice qka qkn qkc)/\w9.cell? ⟨b, off + 4, none⟩ = some (.slice qna qns.length qnc)/\w9.cell? ⟨b, off + 5, none⟩ = some (.slice qa ql.length qcc))) (by kernel_rfl) (HSS.out _ hbD) (fun hHeld => ?_)
    refine tks (b := ?_) (by kernel_rfl) (fun _ _ _ _ _ h => h) (HSS.out _ hbD) 5 [0, 1, 2, 3, 4] (by kernel_rfl) ?_ ?_
    rotate_left
    ·iterate 5 (refine yc (v := ?_) rfl rfl (by rfl) (fun w9 hSw => ?_) ?_; rotate_left; (focus go_simp; try rfl); simp only [Act.put, l1Q, l2Q, l3Q])
     exact rfl
    generalize V.drew = U0 at *
    refine wpAnyH_ready (rs := [5, 10]) (by kernel_rfl) (by simp) (AllReadyH.cons (by rfl) (fun K hK => ?r5) (AllReadyH.cons (by rfl) (fun K hK => ?r10) (AllReadyH.nil)))
    case r5 =>
     go_simp
     have hb1 := hbD.trans (gUQ (gAQ U0 (.cells #[.int .i64 13, .int .i64 zn, .string zs, .slice zka zkn zkc, .slice zna zns.length znc, .slice (some ⟨b, off, none⟩) 1 zcc] 28)) hbD.size (by nofun))
     have HK9 : Hid ((U0.alloc (.cells #[.int .i64 13, .int .i64 zn, .string zs, .slice zka zkn zkc, .slice zna zns.length znc, .slice (some ⟨b, off, none⟩) 1 zcc] 28)).heap[U0.heap.size]? = some (.cells #[.int .i64 13, .int .i64 zn, .string zs, .slice zka zkn zkc, .slice zna zns.length znc, .slice (some ⟨b, off, none⟩) 1 zcc] 28 (0, 0))) := nHQ U0 (.cells #[.int .i64 13, .int .i64 zn, .string zs, .slice zka zkn zkc, .slice zna zns.length znc, .slice (some ⟨b, off, none⟩) 1 zcc] 28)
     have HS9 : Hid (U0.heap.size < (U0.alloc (.cells #[.int .i64 13, .int .i64 zn, .string zs, .slice zka zkn zkc, .slice zna zns.length znc, .slice (some ⟨b, off, none⟩) 1 zcc] 28)).heap.size) := by show _ < _; simp
     have HRK := HK9
     have HRS := HS9
     refine hK.out _ _ (HSS.out _ hb1) (fun _ => ?_)
     clear hK K
     generalize U0.alloc (.cells #[.int .i64 13, .int .i64 zn, .string zs, .slice zka zkn zkc, .slice zna zns.length znc, .slice (some ⟨b, off, none⟩) 1 zcc] 28) = U1 at *
     refine wpAnyH_ready (rs := [6, 10]) (by kernel_rfl) (by simp) (AllReadyH.cons (by rfl) (fun K hK => ?r6) (AllReadyH.cons (by rfl) (fun K hK => ?r11) (AllReadyH.nil)))
     case r6 =>
      go_simp
      go_at_call 36
      refine (HSU.out U0.heap.size _ hb1 hbD.size HRK.out).mono ?_
      rintro e w5 ⟨d, er, rfl, hd, hb5, hyes, hno⟩
      obtain ⟨eop, en, es, ek, ens, el, eka, ekn, ekc, ena, enc, ea, ecc, rfl, hek, _⟩ := cSQ hd
      have HEV := hJQ (cVQ (op := eop) (n := en) (s := es) (nv := .slice ena ens.length enc) (lv := .slice ea el.length ecc) (ns := ens) (l := el) hek)
      rw [HEV.out]
      have hbS := hb1.trans (hb5.mono hb1.size)
      refine hK.out _ _ (HSS.out _ hbS) (fun _ => ?_)
      clear hK K
      refine tks (b := ?_) (by kernel_rfl) (fun _ _ _ _ _ h => h) (HSS.out _ hbS) 3 [7, 8, 9] (by kernel_rfl) ?_ ?_
      rotate_left
      ·iterate 3 (refine yc (v := ?_) rfl rfl (by rfl) (fun w9 hSw => ?_) ?_; rotate_left; (focus go_simp; try rfl); simp only [Act.put, l1Q, l2Q, l3Q])
       exact rfl
      refine rd1 10 (by kernel_rfl) (by rfl) (fun K hK => ?_)
      go_simp
      have hb2 := hbS.trans (gUQ (gAQ w5 (.cells #[.int .i64 0, .int .i64 0, .string ⟨#[]⟩, .slice none 0 0, .slice none 0 0, .slice none 0 0] 28)) hbS.size (by nofun))
      have HK9 : Hid ((w5.alloc (.cells #[.int .i64 0, .int .i64 0, .string ⟨#[]⟩, .slice none 0 0, .slice none 0 0, .slice none 0 0] 28)).heap[w5.heap.size]? = some (.cells #[.int .i64 0, .int .i64 0, .string ⟨#[]⟩, .slice none 0 0, .slice none 0 0, .slice none 0 0] 28 (0, 0))) := nHQ w5 (.cells #[.int .i64 0, .int .i64 0, .string ⟨#[]⟩, .slice none 0 0, .slice none 0 0, .slice none 0 0] 28)
      have HS9 : Hid (w5.heap.size < (w5.alloc (.cells #[.int .i64 0, .int .i64 0, .string ⟨#[]⟩, .slice none 0 0, .slice none 0 0, .slice none 0 0] 28)).heap.size) := by show _ < _; simp
      have hd := (hd.lt.mono (Q := fun b => V.heap.size<=b/\b ≠ w5.heap.size) (fun b hb _ => by have h1 : U1.heap.size<=b := hb.1; have h2 := hb.2; have := hb1.size; exact ⟨by omega, by omega⟩)).grown (gAQ w5 (.cells #[.int .i64 0, .int .i64 0, .string ⟨#[]⟩, .slice none 0 0, .slice none 0 0, .slice none 0 0] 28)) (by nofun)
      refine hK.out _ _ (HSS.out _ hb2) (fun _ => ?_)
      clear hK K
      generalize w5.alloc (.cells #[.int .i64 0, .int .i64 0, .string ⟨#[]⟩, .slice none 0 0, .slice none 0 0, .slice none 0 0] 28) = U2 at *
      have hrw := gRQ U2 (w5.heap.size) #[.int .i64 eop, .int .i64 en, .string es, .slice eka ekn ekc, .slice ena ens.length enc, .slice ea el.length ecc]
      have hbF : Below V.heap.size V (U2.setRow (w5.heap.size) #[.int .i64 eop, .int .i64 en, .string es, .slice eka ekn ekc, .slice ena ens.length enc, .slice ea el.length ecc]) := hb2.trans (gUQ hrw hb2.size (fun q hq => by have e2 : w5.heap.size = q := oJQ hq; rw [← e2]; exact hbS.size))
      refine held_store 11 (by kernel_rfl) (by rfl) (by rfl) (by rfl) 28 _ _ (by rfl) (w5.heap.size) #[.int .i64 eop, .int .i64 en, .string es, .slice eka ekn ekc, .slice ena ens.length enc, .slice ea el.length ecc] (by rfl) (by rfl) 28 _ HK9.out cIQ rfl (all_one _ rfl) (HSS.out _ hbF) ?_
      refine tks (b := ?_) (by kernel_rfl) (fun _ _ _ _ _ h => h) (HSS.out _ hbF) 1 [12] (by kernel_rfl) ?_ ?_
      rotate_left
      ·refine yc (v := ?_) rfl rfl (by rfl) (fun w9 hSw => ?_) ?_; rotate_left; (focus go_simp; try rfl); simp only [Act.put, l1Q, l2Q, l3Q]
       exact rfl
      refine wpAnyH_done (by kernel_rfl) ?_ _
      have hkE := setRow_heap U2 (w5.heap.size) _ #[.int .i64 eop, .int .i64 en, .string es, .slice eka ekn ekc, .slice ena ens.length enc, .slice ea el.length ecc] _ _ HK9.out
      have hdF := (hd).grown hrw (fun q hq hp => hp.2 (oJQ hq).symm)
      go_wp2_with fail
      go_meet
      exact ⟨w5.heap.size, (ConD.mk eop en es ek (.slice ena ens.length enc) ens (.slice ea el.length ecc) el), er, rfl, rfl, ⟨hbF, hdF, by rw [hkE]; show _ = some (Obj.cells #[_, _, _, ek.v, _, _] _ _); rw [hek]; rfl, hbS.size, hyes, fun hv => (hno hv).1⟩⟩
     case r11 =>
      go_simp
      have hb2 := hb1.trans (gUQ (gAQ U1 (.cells #[.int .i64 0, .int .i64 0, .string ⟨#[]⟩, .slice none 0 0, .slice none 0 0, .slice none 0 0] 28)) hb1.size (by nofun))
      have HK9 : Hid ((U1.alloc (.cells #[.int .i64 0, .int .i64 0, .string ⟨#[]⟩, .slice none 0 0, .slice none 0 0, .slice none 0 0] 28)).heap[U1.heap.size]? = some (.cells #[.int .i64 0, .int .i64 0, .string ⟨#[]⟩, .slice none 0 0, .slice none 0 0, .slice none 0 0] 28 (0, 0))) := nHQ U1 (.cells #[.int .i64 0, .int .i64 0, .string ⟨#[]⟩, .slice none 0 0, .slice none 0 0, .slice none 0 0] 28)
      have HS9 : Hid (U1.heap.size < (U1.alloc (.cells #[.int .i64 0, .int .i64 0, .string ⟨#[]⟩, .slice none 0 0, .slice none 0 0, .slice none 0 0] 28)).heap.size) := by show _ < _; simp
      have HRK := hJQ (((gAQ U1 (.cells #[.int .i64 0, .int .i64 0, .string ⟨#[]⟩, .slice none 0 0, .slice none 0 0, .slice none 0 0] 28)).block _ HRS.out (by nofun)).trans HRK.out)
      refine hK.out _ _ (HSS.out _ hb2) (fun _ => ?_)
      clear hK K
      generalize U1.alloc (.cells #[.int .i64 0, .int .i64 0, .string ⟨#[]⟩, .slice none 0 0, .slice none 0 0, .slice none 0 0] 28) = U2 at *
      refine rd1 6 (by kernel_rfl) (by rfl) (fun K hK => ?_)
      go_simp
      go_at_call 36
      refine (HSU.out U0.heap.size _ hb2 hbD.size HRK.out).mono ?_
      rintro e w5 ⟨d, er, rfl, hd, hb5, hyes, hno⟩
      obtain ⟨eop, en, es, ek, ens, el, eka, ekn, ekc, ena, enc, ea, ecc, rfl, hek, _⟩ := cSQ hd
      have HEV := hJQ (cVQ (op := eop) (n := en) (s := es) (nv := .slice ena ens.length enc) (lv := .slice ea el.length ecc) (ns := ens) (l := el) hek)
      rw [HEV.out]
      have hbS := hb2.trans (hb5.mono hb2.size)
      refine hK.out _ _ (HSS.out _ hbS) (fun _ => ?_)
      clear hK K
      refine tks (b := ?_) (by kernel_rfl) (fun _ _ _ _ _ h => h) (HSS.out _ hbS) 3 [7, 8, 9] (by kernel_rfl) ?_ ?_
      rotate_left
      ·iterate 3 (refine yc (v := ?_) rfl rfl (by rfl) (fun w9 hSw => ?_) ?_; rotate_left; (focus go_simp; try rfl); simp only [Act.put, l1Q, l2Q, l3Q])
       exact rfl
      have kL := (hb5.block _ HS9.out).trans HK9.out
      have hrw := gRQ w5 (U1.heap.size) #[.int .i64 eop, .int .i64 en, .string es, .slice eka ekn ekc, .slice ena ens.length enc, .slice ea el.length ecc]
      have hbF : Below V.heap.size V (w5.setRow (U1.heap.size) #[.int .i64 eop, .int .i64 en, .string es, .slice eka ekn ekc, .slice ena ens.length enc, .slice ea el.length ecc]) := hbS.trans (gUQ hrw hbS.size (fun q hq => by have e2 : U1.heap.size = q := oJQ hq; rw [← e2]; exact hb1.size))
      refine held_store 11 (by kernel_rfl) (by rfl) (by rfl) (by rfl) 28 _ _ (by rfl) (U1.heap.size) #[.int .i64 eop, .int .i64 en, .string es, .slice eka ekn ekc, .slice ena ens.length enc, .slice ea el.length ecc] (by rfl) (by rfl) 28 _ kL cIQ rfl (all_one _ rfl) (HSS.out _ hbF) ?_
      refine tks (b := ?_) (by kernel_rfl) (fun _ _ _ _ _ h => h) (HSS.out _ hbF) 1 [12] (by kernel_rfl) ?_ ?_
      rotate_left
      ·refine yc (v := ?_) rfl rfl (by rfl) (fun w9 hSw => ?_) ?_; rotate_left; (focus go_simp; try rfl); simp only [Act.put, l1Q, l2Q, l3Q]
       exact rfl
      refine wpAnyH_done (by kernel_rfl) ?_ _
      have hkE := setRow_heap w5 (U1.heap.size) _ #[.int .i64 eop, .int .i64 en, .string es, .slice eka ekn ekc, .slice ena ens.length enc, .slice ea el.length ecc] _ _ kL
      have hdF := (hd.mono (Q := fun b => V.heap.size<=b/\b ≠ U1.heap.size) (fun b hb _ => by have h1 : U2.heap.size<=b := hb; have := HS9.out; have := hb2.size; exact ⟨by omega, by omega⟩)).grown hrw (fun q hq hp => hp.2 (oJQ hq).symm)
      go_wp2_with fail
      go_meet
      exact ⟨U1.heap.size, (ConD.mk eop en es ek (.slice ena ens.length enc) ens (.slice ea el.length ecc) el), er, rfl, rfl, ⟨hbF, hdF, by rw [hkE]; show _ = some (Obj.cells #[_, _, _, ek.v, _, _] _ _); rw [hek]; rfl, hb1.size, hyes, fun hv => (hno hv).1⟩⟩
    case r10 =>
     go_simp
     have hb1 := hbD.trans (gUQ (gAQ U0 (.cells #[.int .i64 0, .int .i64 0, .string ⟨#[]⟩, .slice none 0 0, .slice none 0 0, .slice none 0 0] 28)) hbD.size (by nofun))
     have HK9 : Hid ((U0.alloc (.cells #[.int .i64 0, .int .i64 0, .string ⟨#[]⟩, .slice none 0 0, .slice none 0 0, .slice none 0 0] 28)).heap[U0.heap.size]? = some (.cells #[.int .i64 0, .int .i64 0, .string ⟨#[]⟩, .slice none 0 0, .slice none 0 0, .slice none 0 0] 28 (0, 0))) := nHQ U0 (.cells #[.int .i64 0, .int .i64 0, .string ⟨#[]⟩, .slice none 0 0, .slice none 0 0, .slice none 0 0] 28)
     have HS9 : Hid (U0.heap.size < (U0.alloc (.cells #[.int .i64 0, .int .i64 0, .string ⟨#[]⟩, .slice none 0 0, .slice none 0 0, .slice none 0 0] 28)).heap.size) := by show _ < _; simp
     have HZK := HK9
     have HZS := HS9
     refine hK.out _ _ (HSS.out _ hb1) (fun _ => ?_)
     clear hK K
     generalize U0.alloc (.cells #[.int .i64 0, .int .i64 0, .string ⟨#[]⟩, .slice none 0 0, .slice none 0 0, .slice none 0 0] 28) = U1 at *
     refine rd1 5 (by kernel_rfl) (by rfl) (fun K hK => ?_)
     go_simp
     have hb2 := hb1.trans (gUQ (gAQ U1 (.cells #[.int .i64 13, .int .i64 zn, .string zs, .slice zka zkn zkc, .slice zna zns.length znc, .slice (some ⟨b, off, none⟩) 1 zcc] 28)) hb1.size (by nofun))
     have HK9 : Hid ((U1.alloc (.cells #[.int .i64 13, .int .i64 zn, .string zs, .slice zka zkn zkc, .slice zna zns.length znc, .slice (some ⟨b, off, none⟩) 1 zcc] 28)).heap[U1.heap.size]? = some (.cells #[.int .i64 13, .int .i64 zn, .string zs, .slice zka zkn zkc, .slice zna zns.length znc, .slice (some ⟨b, off, none⟩) 1 zcc] 28 (0, 0))) := nHQ U1 (.cells #[.int .i64 13, .int .i64 zn, .string zs, .slice zka zkn zkc, .slice zna zns.length znc, .slice (some ⟨b, off, none⟩) 1 zcc] 28)
     have HS9 : Hid (U1.heap.size < (U1.alloc (.cells #[.int .i64 13, .int .i64 zn, .string zs, .slice zka zkn zkc, .slice zna zns.length znc, .slice (some ⟨b, off, none⟩) 1 zcc] 28)).heap.size) := by show _ < _; simp
     have HZK := hJQ (((gAQ U1 (.cells #[.int .i64 13, .int .i64 zn, .string zs, .slice zka zkn zkc, .slice zna zns.length znc, .slice (some ⟨b, off, none⟩) 1 zcc] 28)).block _ HZS.out (by nofun)).trans HZK.out)
     refine hK.out _ _ (HSS.out _ hb2) (fun _ => ?_)
     clear hK K
     generalize U1.alloc (.cells #[.int .i64 13, .int .i64 zn, .string zs, .slice zka zkn zkc, .slice zna zns.length znc, .slice (some ⟨b, off, none⟩) 1 zcc] 28) = U2 at *
     refine rd1 6 (by kernel_rfl) (by rfl) (fun K hK => ?_)
     go_simp
     go_at_call 36
     refine (HSU.out U1.heap.size _ hb2 hb1.size HK9.out).mono ?_
     rintro e w5 ⟨d, er, rfl, hd, hb5, hyes, hno⟩
     obtain ⟨eop, en, es, ek, ens, el, eka, ekn, ekc, ena, enc, ea, ecc, rfl, hek, _⟩ := cSQ hd
     have HEV := hJQ (cVQ (op := eop) (n := en) (s := es) (nv := .slice ena ens.length enc) (lv := .slice ea el.length ecc) (ns := ens) (l := el) hek)
     rw [HEV.out]
     have hbS := hb2.trans (hb5.mono hb2.size)
     refine hK.out _ _ (HSS.out _ hbS) (fun _ => ?_)
     clear hK K
     refine tks (b := ?_) (by kernel_rfl) (fun _ _ _ _ _ h => h) (HSS.out _ hbS) 3 [7, 8, 9] (by kernel_rfl) ?_ ?_
     rotate_left
     ·iterate 3 (refine yc (v := ?_) rfl rfl (by rfl) (fun w9 hSw => ?_) ?_; rotate_left; (focus go_simp; try rfl); simp only [Act.put, l1Q, l2Q, l3Q])
      exact rfl
     have kL := (hb5.block _ (Nat.lt_trans HZS.out HS9.out)).trans HZK.out
     have hrw := gRQ w5 (U0.heap.size) #[.int .i64 eop, .int .i64 en, .string es, .slice eka ekn ekc, .slice ena ens.length enc, .slice ea el.length ecc]
     have hbF : Below V.heap.size V (w5.setRow (U0.heap.size) #[.int .i64 eop, .int .i64 en, .string es, .slice eka ekn ekc, .slice ena ens.length enc, .slice ea el.length ecc]) := hbS.trans (gUQ hrw hbS.size (fun q hq => by have e2 : U0.heap.size = q := oJQ hq; rw [← e2]; exact hbD.size))
     refine held_store 11 (by kernel_rfl) (by rfl) (by rfl) (by rfl) 28 _ _ (by rfl) (U0.heap.size) #[.int .i64 eop, .int .i64 en, .string es, .slice eka ekn ekc, .slice ena ens.length enc, .slice ea el.length ecc] (by rfl) (by rfl) 28 _ kL cIQ rfl (all_one _ rfl) (HSS.out _ hbF) ?_
     refine tks (b := ?_) (by kernel_rfl) (fun _ _ _ _ _ h => h) (HSS.out _ hbF) 1 [12] (by kernel_rfl) ?_ ?_
     rotate_left
     ·refine yc (v := ?_) rfl rfl (by rfl) (fun w9 hSw => ?_) ?_; rotate_left; (focus go_simp; try rfl); simp only [Act.put, l1Q, l2Q, l3Q]
      exact rfl
     refine wpAnyH_done (by kernel_rfl) ?_ _
     have hkE := setRow_heap w5 (U0.heap.size) _ #[.int .i64 eop, .int .i64 en, .string es, .slice eka ekn ekc, .slice ena ens.length enc, .slice ea el.length ecc] _ _ kL
     have hdF := (hd.mono (Q := fun b => V.heap.size<=b/\b ≠ U0.heap.size) (fun b hb _ => by have h1 : U2.heap.size<=b := hb; have := HS9.out; have := HZS.out; have := hb2.size; exact ⟨by omega, by omega⟩)).grown hrw (fun q hq hp => hp.2 (oJQ hq).symm)
     go_wp2_with fail
     go_meet
     exact ⟨U0.heap.size, (ConD.mk eop en es ek (.slice ena ens.length enc) ens (.slice ea el.length ecc) el), er, rfl, rfl, ⟨hbF, hdF, by rw [hkE]; show _ = some (Obj.cells #[_, _, _, ek.v, _, _] _ _); rw [hek]; rfl, hbD.size, hyes, fun hv => (hno hv).1⟩⟩
   case rest =>
    obtain ⟨gb, d, er, rfl, rfl, HVX⟩ := hcut
    clear HSU HSS hbD
    obtain ⟨hbx, hdx, hgx, hgb, hyes, hno⟩ := HVX.out
    have kR5 := (hbx.block _ (hLQ HRV.out)).trans HRV.out
    have hbb5 := HBWV.out.trans (hbx.mono HBWV.out.size)
    clear z0 z1 z2 z3 z4 z5 HZ2
    cases hvT : valC T
    ·obtain rfl := hno hvT
     have HZR : Hid (Rr = (zeroN, 27)) := by
      show _ = _
      rw [HUN.out]
      unfold tameOf
      rw [if_neg]
      ·rfl
      ·intro hq
       rw [fold_val _ _ hq] at hvT; cases hvT
     clear hyes hno hvT
     obtain ⟨HRF, HBF⟩ := put_res hbb5 kR5 #[.int .i64 0, .int .i64 0, .string ⟨#[]⟩, .slice none 0 0, .slice none 0 0, .slice none 0 0]
     go_wp2_with (refine wpList_store_row rfl 28 _ _ rfl (w.heap.size + 1) _ rfl rfl 28 _ kR5 cIQ rfl (all_one _ rfl) ?_)
     exact bodyPost_ret (res2 rfl rfl rfl HRF.out) rfl (pair_zero HBF.out (HZR.out))
    ·obtain ⟨rfl, hpd⟩ := hyes hvT
     have HVT := hJQ hvT
     have HBX5 := hJQ hbx
     have HST2 : Hid (IsCon (fun b => V1.heap.size<=b/\b ≠ gb) wc d/\pC d = ((ds.take 0).map pC).foldl appC T) := ⟨hdx.mono (fun b hb _ => ⟨by have := hb.1; have := HB34.out.size; have := HS13.out; omega, hb.2⟩), by rw [hpd]; rfl⟩
     have HGX := hJQ hgx
     obtain ⟨n9, hn9⟩ : ∃ n, ds.length = n := ⟨_, rfl⟩
     have HM := hJQ hn9
     have hnb : n9<=20000 := by
      have h4 : ds.length = (spineC TY).2.length := by rw [← HPL.out, List.length_map]
      have h5 : (spineC TY).2.length<=0 + sizeC TY := HFY.out
      have h6 := HZY.out
      omega
     rw [hn9]
     clear hyes hno hvT hbx hdx hgx hpd kR5 hbb5 HVX hn9
     go_wp2_with fail
     go_loopg [49] n9 (fun g2 lv9 wx => ∃ (j : Nat) (gd : ConD), lv9 = .int .i64 j/\j + g2 = n9/\Hid (IsCon (fun b => V1.heap.size<=b/\b ≠ gb) wx gd/\pC gd = ((ds.take j).map pC).foldl appC T)/\Hid (wx.heap[gb]? = some (.cells (cEQ gd).toArray 28))/\Hid (Below V.heap.size V wx))
     case atStart => exact ⟨0, d, rfl, by omega, HST2, HGX, HBX5⟩
     case round =>
      clear HST2 HGX HBX5
      rename World => w6
      obtain ⟨j, gd, rfl, hjm, HG, HGB, HBV⟩ := hrel
      have hg6 := HG.out.1
      have hpg := hJQ HG.out.2
      obtain ⟨pop, pn, ps, pk, pns, pl, pka, pkn, pkc, pna, pnc, pa, pcc, rfl, hpk, _⟩ := cSQ hg6
      have hge : cEQ (ConD.mk pop pn ps pk (.slice pna pns.length pnc) pns (.slice pa pl.length pcc) pl) = [.int .i64 pop, .int .i64 pn, .string ps, .slice pka pkn pkc, .slice pna pns.length pnc, .slice pa pl.length pcc] := by show [_, _, _, pk.v, _, _] = _; rw [hpk]; rfl
      have HGE := hJQ hge
      have HGV := hJQ (cVQ (op := pop) (n := pn) (s := ps) (nv := .slice pna pns.length pnc) (lv := .slice pa pl.length pcc) (ns := pns) (l := pl) hpk)
      have kG : w6.heap[gb]? = some (.cells #[.int .i64 pop, .int .i64 pn, .string ps, .slice pka pkn pkc, .slice pna pns.length pnc, .slice pa pl.length pcc] 28) := by rw [HGB.out, hge]
      have HKG := hJQ kG
      have hb36 : Below w3.heap.size w3 w6 := HB34.out.trans (HBV.out.mono HB34.out.size)
      have hbw6 := HBWV.out.trans (HBV.out.mono HBWV.out.size)
      have HBW6 := hJQ hbw6
      have hs6 := hb36.size
      have HG6 := hJQ hg6
      clear hge hpk HG HGB hbw6 hg6
      by_cases hj : j < n9
      ·obtain ⟨K2, rfl⟩ : ∃ K2, gk = K2 + 1 := ⟨gk - 1, by omega⟩
       have hr3 := HL.out.row (P := fun b => V1.heap.size<=b) (fun _ h => h)
       have hrt : RowP (fun b => V1.heap.size<=b/\b ≠ gb) w6 (.slice oa ds.length oc) ds.length (cCQ ds) := (hr3.1.lt.keep hb36.size (fun b _ hlt => hb36.block b hlt)).mono (fun b hb hlt => ⟨hb.1, by have := hb.2; have := HB34.out.size; omega⟩)
       have hall : ∀ y ∈ ds, IsCon (fun b => V1.heap.size<=b/\b ≠ gb) w6 y := fun y hy => iBQ ((hr3.2 y hy).lt.mono (fun b hb _ => ⟨hb.1, by have := hb.2; have := HB34.out.size; omega⟩)) hb36
       obtain ⟨b8, off8, top, tn, ts, tk, tns, tl, tka, tkn, tkc, tna, tnc, ta, tcc, ead, hbl8, hq8, ht8, hmem8, hv8, HT8, e0, e1, e2, e3, e4, e5⟩ := part_at hrt hall j (by rw [HM.out]; exact hj)
       subst ead
       obtain ⟨hgA, kA, hrA, kT, hb67⟩ := fresh_put w6 #[.int .i64 top, .int .i64 tn, .string ts, .slice tka tkn tkc, .slice tna tns.length tnc, .slice ta tl.length tcc]
       have kG7 := (hb67.block _ (hLQ HKG.out)).trans HKG.out
       have HQ8 := hJQ hq8
       have HTC : Hid (cEQ (ConD.mk top tn ts tk (.slice tna tns.length tnc) tns (.slice ta tl.length tcc) tl) = [.int .i64 top, .int .i64 tn, .string ts, .slice tka tkn tkc, .slice tna tns.length tnc, .slice ta tl.length tcc]) := Array.toList_inj.2 (Value.agg.inj hv8)
       have HP7 := hJQ (iBQ HG6.out hb67)
       have HT7 := hJQ (iBQ ht8 hb67)
       have HB7 := hJQ (HBV.out.trans (hb67.mono HBV.out.size))
       have hs7 := hb67.size
       have hgl := hLQ HKG.out
       clear hgA hrA hb67 hr3 hrt hall ht8 hq8 hmem8 hv8 HT8 hb36
       go_upto_region 15 with (refine wpList_store_row rfl 28 _ _ rfl w6.heap.size _ rfl rfl 28 _ kA cIQ rfl (all_one _ rfl) ?_)
       clear kA e0 e1 e2 e3 e4 e5
       generalize ((w6.alloc (.cells #[.int .i64 0, .int .i64 0, .string ⟨#[]⟩, .slice none 0 0, .slice none 0 0, .slice none 0 0] 28)).setRow w6.heap.size #[.int .i64 top, .int .i64 tn, .string ts, .slice tka tkn tkc, .slice tna tns.length tnc, .slice ta tl.length tcc]) = w7 at *
       obtain ⟨t0, t1, t2, t3, t4, t5⟩ := cnQ kT
       obtain ⟨p0, p1, p2, p3, p4, p5⟩ := cnQ kG7
       have hgR := gAQ w7 (.cells #[.int .i64 pop, .int .i64 pn, .string ps, .slice pka pkn pkc, .slice pna pns.length pnc, .slice pa pl.length pcc, .int .i64 top, .int .i64 tn, .string ts, .slice tka tkn tkc, .slice tna tns.length tnc, .slice ta tl.length tcc] 28)
       have kG8 := (hgR.block gb (by omega) (by nofun)).trans kG7
       have hgS := gBQ (fNQ hgR (some gb)) (gRQ (w7.alloc (.cells #[.int .i64 pop, .int .i64 pn, .string ps, .slice pka pkn pkc, .slice pna pns.length pnc, .slice pa pl.length pcc, .int .i64 top, .int .i64 tn, .string ts, .slice tka tkn tkc, .slice tna tns.length tnc, .slice ta tl.length tcc] 28)) gb #[.int .i64 12, .int .i64 0, .string ⟨#[]⟩, .slice none 0 0, .slice none 0 0, .slice (some ⟨w7.heap.size, 0, none⟩) 2 2])
       have kN : ((w7.alloc (.cells #[.int .i64 pop, .int .i64 pn, .string ps, .slice pka pkn pkc, .slice pna pns.length pnc, .slice pa pl.length pcc, .int .i64 top, .int .i64 tn, .string ts, .slice tka tkn tkc, .slice tna tns.length tnc, .slice ta tl.length tcc] 28)).setRow gb #[.int .i64 12, .int .i64 0, .string ⟨#[]⟩, .slice none 0 0, .slice none 0 0, .slice (some ⟨w7.heap.size, 0, none⟩) 2 2]).heap[w7.heap.size]? = some (.cells (cEQ (ConD.mk pop pn ps pk (.slice pna pns.length pnc) pns (.slice pa pl.length pcc) pl) ++ cEQ (ConD.mk top tn ts tk (.slice tna tns.length tnc) tns (.slice ta tl.length tcc) tl)).toArray 28) := by
        rw [HGE.out, HTC.out]
        exact (setRow_other _ _ _ _ (by omega)).trans (nHQ w7 (.cells #[.int .i64 pop, .int .i64 pn, .string ps, .slice pka pkn pkc, .slice pna pns.length pnc, .slice pa pl.length pcc, .int .i64 top, .int .i64 tn, .string ts, .slice tka tkn tkc, .slice tna tns.length tnc, .slice ta tl.length tcc] 28))
       have HND : Hid (IsCon (fun b => V1.heap.size<=b/\b ≠ gb) ((w7.alloc (.cells #[.int .i64 pop, .int .i64 pn, .string ps, .slice pka pkn pkc, .slice pna pns.length pnc, .slice pa pl.length pcc, .int .i64 top, .int .i64 tn, .string ts, .slice tka tkn tkc, .slice tna tns.length tnc, .slice ta tl.length tcc] 28)).setRow gb #[.int .i64 12, .int .i64 0, .string ⟨#[]⟩, .slice none 0 0, .slice none 0 0, .slice (some ⟨w7.heap.size, 0, none⟩) 2 2]) (ConD.mk 12 0 ⟨#[]⟩ (.mk (.slice none 0 0) []) (.slice none 0 0) [] (.slice (some ⟨w7.heap.size, 0, none⟩) 2 2) [(ConD.mk pop pn ps pk (.slice pna pns.length pnc) pns (.slice pa pl.length pcc) pl), (ConD.mk top tn ts tk (.slice tna tns.length tnc) tns (.slice ta tl.length tcc) tl)])/\pC (ConD.mk 12 0 ⟨#[]⟩ (.mk (.slice none 0 0) []) (.slice none 0 0) [] (.slice (some ⟨w7.heap.size, 0, none⟩) 2 2) [(ConD.mk pop pn ps pk (.slice pna pns.length pnc) pns (.slice pa pl.length pcc) pl), (ConD.mk top tn ts tk (.slice tna tns.length tnc) tns (.slice ta tl.length tcc) tl)]) = ((ds.take (j + 1)).map pC).foldl appC T) := by
        refine ⟨app_con (HP7.out.grown hgS (fun q hq hp => hp.2 (oJQ hq).symm)) (HT7.out.grown hgS (fun q hq hp => hp.2 (oJQ hq).symm)) ⟨by have := HB34.out.size; have := HS13.out; omega, by omega⟩ kN, ?_⟩
        rw [app_pure, fold_take appC T ds j (by rw [HM.out]; exact hj), HQ8.out, hpg.out]
       have HNB : Hid (((w7.alloc (.cells #[.int .i64 pop, .int .i64 pn, .string ps, .slice pka pkn pkc, .slice pna pns.length pnc, .slice pa pl.length pcc, .int .i64 top, .int .i64 tn, .string ts, .slice tka tkn tkc, .slice tna tns.length tnc, .slice ta tl.length tcc] 28)).setRow gb #[.int .i64 12, .int .i64 0, .string ⟨#[]⟩, .slice none 0 0, .slice none 0 0, .slice (some ⟨w7.heap.size, 0, none⟩) 2 2]).heap[gb]? = some (.cells (cEQ (ConD.mk 12 0 ⟨#[]⟩ (.mk (.slice none 0 0) []) (.slice none 0 0) [] (.slice (some ⟨w7.heap.size, 0, none⟩) 2 2) [(ConD.mk pop pn ps pk (.slice pna pns.length pnc) pns (.slice pa pl.length pcc) pl), (ConD.mk top tn ts tk (.slice tna tns.length tnc) tns (.slice ta tl.length tcc) tl)])).toArray 28)) := setRow_heap _ gb _ #[.int .i64 12, .int .i64 0, .string ⟨#[]⟩, .slice none 0 0, .slice none 0 0, .slice (some ⟨w7.heap.size, 0, none⟩) 2 2] _ _ kG8
       have HNV := hJQ (HB7.out.trans (gUQ hgS HB7.out.size (fun q hq => by have e2 : gb = q := oJQ hq; omega)))
       clear hgR hgS kN
       go_wp2_with (refine wpList_store_row rfl 28 _ _ rfl gb _ rfl rfl 28 _ kG8 cIQ rfl (all_one _ rfl) ?_)
       go_roundg K2
       case measure => omega
       case rel => exact ⟨j + 1, (ConD.mk 12 0 ⟨#[]⟩ (.mk (.slice none 0 0) []) (.slice none 0 0) [] (.slice (some ⟨w7.heap.size, 0, none⟩) 2 2) [(ConD.mk pop pn ps pk (.slice pna pns.length pnc) pns (.slice pa pl.length pcc) pl), (ConD.mk top tn ts tk (.slice tna tns.length tnc) tns (.slice ta tl.length tcc) tl)]), by go_num, (Nat.add_right_comm j 1 K2).trans hjm, HND, HNB, HNV⟩
      ·have hje : n9 = j := by omega
       subst hje
       have htk : ds.take n9 = ds := by rw [← HM.out]; exact List.take_length
       have hpe := hpg.out
       rw [htk] at hpe
       have hsz : sizeC ((ds.map pC).foldl appC T)<=1000000000 := by
        have h1 := fold_size (ds.map pC) T (fun x hx => (val_iff.1 (HDV.out.1 x hx)).1)
        have h2 := (val_iff.1 HVT.out).1
        have h3 := HM.out
        rw [List.length_map] at h1
        have h8 : ds.length * 20001<=20000 * 20001 := Nat.mul_le_mul_right _ (by omega)
        omega
       have hbn := fold_bnd (ds.map pC) T HBT.out HDV.out.2
       have HNC : Hid (Calls Tryz.prog 8 #[.agg #[.int .i64 pop, .int .i64 pn, .string ps, .slice pka pkn pkc, .slice pna pns.length pnc, .slice pa pl.length pcc]] w6 (NormalOk ((ds.map pC).foldl appC T) w6)) := by
        have := normal_any (fun b => V1.heap.size<=b/\b ≠ gb) (ConD.mk pop pn ps pk (.slice pna pns.length pnc) pns (.slice pa pl.length pcc) pl) w6 (HE.out.below HBW6.out) HG6.out (by rw [hpe]; exact hbn) (by rw [hpe]; exact hsz)
        rw [HGV.out, hpe] at this
        exact this
       obtain ⟨p0, p1, p2, p3, p4, p5⟩ := cnQ kG
       clear hsz hbn hpe htk hb36 hpg
       go_wp2_with fail
       refine HNC.out.mono ?_
       rintro e w7 ⟨dn, er, rfl, hdn, hb7, hn1, hn2, hn3⟩
       obtain ⟨oop, on, os, ok, ons, ol, oka, okn, okc, ona, onc, oa, occ, rfl, hok, _⟩ := cSQ hdn
       have HOV := hJQ (cVQ (op := oop) (n := on) (s := os) (nv := .slice ona ons.length onc) (lv := .slice oa ol.length occ) (ns := ons) (l := ol) hok)
       rw [HOV.out]
       have hbw7 := HBW6.out.trans (hb7.mono HBW6.out.size)
       have hlR := hLQ HRV.out
       have kR7 := (hb7.block _ (by have := HBV.out.size; omega)).trans ((HBV.out.block _ hlR).trans HRV.out)
       have kG7 := (hb7.block _ (hLQ HKG.out)).trans HKG.out
       have hgl := hLQ HKG.out
       have hrow := gRQ w7 gb #[.int .i64 oop, .int .i64 on, .string os, .slice oka okn okc, .slice ona ons.length onc, .slice oa ol.length occ]
       have kO := setRow_heap w7 gb _ #[.int .i64 oop, .int .i64 on, .string os, .slice oka okn okc, .slice ona ons.length onc, .slice oa ol.length occ] _ _ kG7
       have hs67 := hb7.size
       have kR8 := (hrow.block (w.heap.size + 1) (hLQ kR7) (fun e => by have e2 : w.heap.size + 1 = gb := oJQ e; have := HBWV.out.size; have := HS1.out; have := HS13.out; have := HB34.out.size; omega)).trans kR7
       have hbw8 := hbw7.trans (gUQ (B := w.heap.size) hrow hbw7.size (fun q hq => by have e2 : gb = q := oJQ hq; have := HBWV.out.size; omega))
       have HDO := hJQ (hdn.grown hrow (fun q hq hp => by have e2 : gb = q := oJQ hq; have hp : w6.heap.size<=q := hp; omega))
       have HUT : Hid ((er ≠ 0/\Rr = (zeroN, 27)) ∨ (er = 0/\Rr = (pC (ConD.mk oop on os ok (.slice ona ons.length onc) ons (.slice oa ol.length occ) ol), 0))) := by
        have hR := HUN.out
        cases hv : valC ((ds.map pC).foldl appC T) with
        | false =>
          refine .inl ⟨by rw [(hn1 hv).2]; decide, ?_⟩
          rw [hR]; unfold tameOf; rw [if_neg (by rw [hv]; decide)]; rfl
        | true =>
          cases ht : tameN ((ds.map pC).foldl appC T) with
          | none =>
            refine .inl ⟨by rw [(hn2 hv ht).2]; decide, ?_⟩
            rw [hR]; unfold tameOf; rw [if_pos hv, ht]; rfl
          | some ym =>
            refine .inr ⟨(hn3 hv ym.1 ym.2 ht).2, ?_⟩
            rw [hR, (hn3 hv ym.1 ym.2 ht).1]; unfold tameOf; rw [if_pos hv, ht]; rfl
       clear hrow hdn hn1 hn2 hn3 p0 p1 p2 p3 p4 p5 HNC kG hok
       go_upto_region 18 with (refine wpList_store_row rfl 28 _ _ rfl gb _ rfl rfl 28 _ kG7 cIQ rfl (all_one _ rfl) ?_)
       generalize w7.setRow gb #[.int .i64 oop, .int .i64 on, .string os, .slice oka okn okc, .slice ona ons.length onc, .slice oa ol.length occ] = w8 at *
       rcases HUT.out with ⟨h0, hr0⟩ | ⟨h0, hr0⟩
       ·have hne : (er != 0) = true := nNQ h0
        have HZR := hJQ hr0
        obtain ⟨HRF, HBF⟩ := put_res hbw8 kR8 #[.int .i64 0, .int .i64 0, .string ⟨#[]⟩, .slice none 0 0, .slice none 0 0, .slice none 0 0]
        go_wp2_with (refine wpList_store_row rfl 28 _ _ rfl (w.heap.size + 1) _ rfl rfl 28 _ kR8 cIQ rfl (all_one _ rfl) ?_)
        exact bodyPost_ret (res2 rfl rfl rfl HRF.out) rfl (pair_zero HBF.out (HZR.out))
       ·subst h0
        have HZR := hJQ hr0
        obtain ⟨o0, o1, o2, o3, o4, o5⟩ := cnQ kO
        have hltR := hLQ kR8
        have hrow := gRQ w8 (w.heap.size + 1) #[.int .i64 oop, .int .i64 on, .string os, .slice oka okn okc, .slice ona ons.length onc, .slice oa ol.length occ]
        have HRF := hJQ (setRow_heap w8 (w.heap.size + 1) _ #[.int .i64 oop, .int .i64 on, .string os, .slice oka okn okc, .slice ona ons.length onc, .slice oa ol.length occ] _ _ kR8)
        have HBF := hJQ (hbw8.trans (gUQ (B := w.heap.size) hrow hbw8.size (fun q hq => by have e2 : w.heap.size + 1 = q := oJQ hq; omega)))
        have HDF := hJQ ((HDO.out.grown hrow (fun q hq hp => by have e2 : w.heap.size + 1 = q := oJQ hq; have hp : w6.heap.size<=q := hp; have := HBWV.out.size; have := HS1.out; have := HS13.out; have := HB34.out.size; omega)).mono (Q := fun b => w.heap.size<=b) (fun b hb _ => by have hb : w6.heap.size<=b := hb; have := HBW6.out.size; show w.heap.size<=b; omega))
        clear hrow hr0
        go_wp2_with (refine wpList_store_row rfl 28 _ _ rfl (w.heap.size + 1) _ rfl rfl 28 _ kR8 cIQ rfl (all_one _ rfl) ?_)
        refine bodyPost_ret (res2 rfl rfl rfl HRF.out) rfl (pairOk HOV.out.symm HDF.out (by rw [HZR.out]) HBF.out (by rw [HZR.out]))
  ·have hf' : (zop != 13) = true := nNQ hf
   have HZR : Hid (Rr = (zeroN, 12)) := by show _ = _; rw [HUR.out, unroll_no]; rw [← HPD.out, pMQ]; exact hf
   obtain ⟨HRF, HBF⟩ := put_res hbwv kRV #[.int .i64 0, .int .i64 0, .string ⟨#[]⟩, .slice none 0 0, .slice none 0 0, .slice none 0 0]
   go_wp2_with (refine wpList_store_row rfl 28 _ _ rfl (w.heap.size + 1) _ rfl rfl 28 _ kRV cIQ rfl (all_one _ rfl) ?_)
   exact bodyPost_ret (res2 rfl rfl rfl HRF.out) rfl (pair_zero HBF.out (HZR.out))
end Go.Proofs.YtkiffgdinmpljaaGreatDoor
