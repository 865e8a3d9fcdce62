/- normal.Head. Printed by gen_head.py, expanded by mac.py. -/
import Derived.Test.YtkiffgdinmpljaaGreatDoorF32
import Derived.Test.YtkiffgdinmpljaaGreatDoorF22
import Derived.Test.YtkiffgdinmpljaaGreatDoorF16
set_option linter.unusedVariables false
set_option linter.unusedSimpArgs false
namespace Go.Proofs.YtkiffgdinmpljaaGreatDoor
open Go Go.RowKit
set_option maxHeartbeats 8000000
set_option maxRecDepth 100000
theorem pairOk {P : Nat->Prop} {r : Cn × Int} {w w' : World} {v : Value} {er : Int} {d : ConD} (hv : v = conV d) (hd : IsCon P w' d) (hp : pC d = r.1) (hb : Below w.heap.size w w') (he : er = r.2) : PairOk P r w (.returned (.tuple #[v, .int .i64 er])) w' := by
 subst hv; subst he
 exact ⟨d, rfl, hd, hp, hb⟩
theorem pair_zero {P : Nat->Prop} {r : Cn × Int} {w w' : World} {er : Int} (hb : Below w.heap.size w w') (hr : r = (zeroN, er)) : PairOk P r w (.returned (.tuple #[.agg #[.int .i64 0, .int .i64 0, .string ⟨#[]⟩, .slice none 0 0, .slice none 0 0, .slice none 0 0], .int .i64 er])) w' := by
 subst hr
 exact pairOk (d := zeroD) rfl (zeroD_con _ _) zeroD_pure hb rfl
theorem head_any (P : Nat->Prop) (x : ConD) (w : World) (hE : EnvN w) (h : IsCon P w x) (hb : bndC (pC x)) (hsz : sizeC (pC x)<=1000000000) :
 Calls Tryz.prog 14 #[conV x] w (PairOk (fun b => w.heap.size<=b) (headR (pC x)) w) := by
 have hxl := h.lt
 obtain ⟨xop, xn, xs, xk, xns, xl, xka, xkn, xkc, xna, xnc, xa, xcc, rfl, hxk, _⟩ := cSQ h
 have HXV := hJQ (cVQ (op := xop) (n := xn) (s := xs) (nv := .slice xna xns.length xnc) (lv := .slice xa xl.length xcc) (ns := xns) (l := xl) hxk)
 rw [HXV.out]
 obtain ⟨g1, kR, kB, hbW, hsW⟩ := two_box (nHQ w (.cells #[.int .i64 xop, .int .i64 xn, .string xs, .slice xka xkn xkc, .slice xna xns.length xnc, .slice xa xl.length xcc] 28))
 have HV : Hid (∀ U, Below w.heap.size w U->Calls Tryz.prog 25 #[.agg #[.int .i64 xop, .int .i64 xn, .string xs, .slice xka xkn xkc, .slice xna xns.length xnc, .slice xa xl.length xcc]] U fun e w' => e = .returned (.bool (valC (pC (ConD.mk xop xn xs xk (.slice xna xns.length xnc) xns (.slice xa xl.length xcc) xl))))/\Below U.heap.size U w') := fun U hU => by
  have := valid_any P (ConD.mk xop xn xs xk (.slice xna xns.length xnc) xns (.slice xa xl.length xcc) xl) U (hE.below hU) (iBQ h hU) hb (by omega)
  rw [HXV.out] at this
  exact this
 have HCE : Hid (cEQ (ConD.mk xop xn xs xk (.slice xna xns.length xnc) xns (.slice xa xl.length xcc) xl) = [.int .i64 xop, .int .i64 xn, .string xs, .slice xka xkn xkc, .slice xna xns.length xnc, .slice xa xl.length xcc]) := by show [_, _, _, xk.v, _, _] = _; rw [hxk]; rfl
 have HX0 := hJQ (hxl.mono (Q := (fun b => b ≠ w.heap.size/\b ≠ w.heap.size + 1)) (fun b hb _ => ⟨by have := hb.2; omega, by have := hb.2; omega⟩))
 have HE := hJQ hE
 have HBX := hJQ hb
 obtain ⟨c0, c1, c2, c3, c4, c5⟩ := cnQ kB
 have HB0 := hJQ kB
 have HR0 := hJQ kR
 obtain ⟨Rr, hRr⟩ : ∃ r, headR (pC (ConD.mk xop xn xs xk (.slice xna xns.length xnc) xns (.slice xa xl.length xcc) xl)) = r := ⟨_, rfl⟩
 have HRV : Hid (valC (pC (ConD.mk xop xn xs xk (.slice xna xns.length xnc) xns (.slice xa xl.length xcc) xl)) = true->Rr = orBudget (headF 10000 (pC (ConD.mk xop xn xs xk (.slice xna xns.length xnc) xns (.slice xa xl.length xcc) xl)))) := fun hv => by rw [← hRr]; unfold headR; rw [if_pos hv]
 have HRN : Hid (valC (pC (ConD.mk xop xn xs xk (.slice xna xns.length xnc) xns (.slice xa xl.length xcc) xl)) = false->Rr = (zeroN, 1)) := fun hv => by rw [← hRr]; unfold headR; rw [if_neg (by rw [hv]; decide)]
 rw [hRr]
 clear h hb hsz hE g1 kB kR hxk hxl hRr
 obtain ⟨bv, hbv⟩ : ∃ b, valC (pC (ConD.mk xop xn xs xk (.slice xna xns.length xnc) xns (.slice xa xl.length xcc) xl)) = b := ⟨_, rfl⟩
 rw [hbv] at HV HRV HRN
 have HBV := hJQ hbv
 clear hbv
 go_enter Tryz.func14, Tryz.ntmps14
 go_upto_region 1 with fail
 generalize ((w.alloc (.cells #[.int .i64 xop, .int .i64 xn, .string xs, .slice xka xkn xkc, .slice xna xns.length xnc, .slice xa xl.length xcc] 28)).alloc (.cells #[.int .i64 0, .int .i64 0, .string ⟨#[]⟩, .slice none 0 0, .slice none 0 0, .slice none 0 0] 28)) = W at *
 go_wp2_with fail
 refine (HV.out _ hbW).mono ?_
 rintro e w2 ⟨rfl, hb2⟩
 have hbw := hbW.trans (hb2.mono hbW.size)
 have HB2 := hJQ ((hb2.block _ (hLQ HB0.out)).trans HB0.out)
 have kR2 := (hb2.block _ (hLQ HR0.out)).trans HR0.out
 have HR2 := hJQ kR2
 have hs2 : w.heap.size + 2<=w2.heap.size := by have := hb2.size; omega
 clear c0 c1 c2 c3 c4 c5 HV hb2 HB0 HR0 hbW hsW
 cases bv
 ·have HZR := hJQ (HRN.out rfl)
  obtain ⟨HRF, HBF⟩ := put_res hbw kR2 #[.int .i64 0, .int .i64 0, .string ⟨#[]⟩, .slice none 0 0, .slice none 0 0, .slice none 0 0]
  go_wp2_with (refine wpList_store_row rfl 28 _ _ rfl (w.heap.size + 1) _ rfl rfl 28 _ kR2 cIQ rfl (all_one _ rfl) ?_)
  exact bodyPost_ret (res2 rfl rfl rfl HRF.out) rfl (pair_zero HBF.out (HZR.out))
 ·have HBW := hJQ hbw
  have HST : Hid (IsCon (fun b => b ≠ w.heap.size/\b ≠ w.heap.size + 1) w2 (ConD.mk xop xn xs xk (.slice xna xns.length xnc) xns (.slice xa xl.length xcc) xl)/\valC (pC (ConD.mk xop xn xs xk (.slice xna xns.length xnc) xns (.slice xa xl.length xcc) xl)) = true/\bndC (pC (ConD.mk xop xn xs xk (.slice xna xns.length xnc) xns (.slice xa xl.length xcc) xl))/\Rr = orBudget (headF 10000 (pC (ConD.mk xop xn xs xk (.slice xna xns.length xnc) xns (.slice xa xl.length xcc) xl)))) := ⟨iBQ HX0.out hbw, HBV.out, HBX.out, HRV.out rfl⟩
  clear HRN HRV HBV HBX hbw kR2 HX0
  go_wp2_with fail
  go_loopg [4] 10000 (fun k lv9 wr => ∃ (i : Nat) (y : ConD), lv9 = .int .i64 i/\i + k = 10000/\Hid (IsCon (fun b => b ≠ w.heap.size/\b ≠ w.heap.size + 1) wr y/\valC (pC y) = true/\bndC (pC y)/\Rr = orBudget (headF k (pC y)))/\Hid (wr.heap[w.heap.size]? = some (.cells (cEQ y).toArray 28))/\Hid (wr.heap[(w.heap.size + 1)]? = some (.cells #[.int .i64 0, .int .i64 0, .string ⟨#[]⟩, .slice none 0 0, .slice none 0 0, .slice none 0 0] 28))/\Hid (Below w.heap.size w wr))
  case atStart => exact ⟨0, (ConD.mk xop xn xs xk (.slice xna xns.length xnc) xns (.slice xa xl.length xcc) xl), rfl, rfl, HST, by rw [HCE.out]; exact HB2, HR2, HBW⟩
  case round =>
   rename World => w1
   clear HST HCE HB2 HR2 HBW HXV
   obtain ⟨i, y, rfl, hik, HY, HB1, HR, HB⟩ := hrel
   obtain ⟨hy, hvy, hby, hhd⟩ := HY.out
   have HHD := hJQ hhd
   clear hhd HY
   obtain ⟨yop, yn, ys, yk, yns, yl, yka, ykn, ykc, yna, ync, ya, ycc, rfl, hyk, _⟩ := cSQ hy
   have hce : cEQ (ConD.mk yop yn ys yk (.slice yna yns.length ync) yns (.slice ya yl.length ycc) yl) = [.int .i64 yop, .int .i64 yn, .string ys, .slice yka ykn ykc, .slice yna yns.length ync, .slice ya yl.length ycc] := by show [_, _, _, yk.v, _, _] = _; rw [hyk]; rfl
   have kB : w1.heap[w.heap.size]? = some (.cells #[.int .i64 yop, .int .i64 yn, .string ys, .slice yka ykn ykc, .slice yna yns.length ync, .slice ya yl.length ycc] 28) := by rw [HB1.out, hce]
   have HKB := hJQ kB
   have HYV := hJQ (cVQ (op := yop) (n := yn) (s := ys) (nv := .slice yna yns.length ync) (lv := .slice ya yl.length ycc) (ns := yns) (l := yl) hyk)
   have hsr := HB.out.size
   have hsr2 := hLQ HR.out
   obtain ⟨hzy, _, hfy⟩ := val_iff.1 hvy
   have HSP : Hid (∀ U, Below w1.heap.size w1 U->Calls Tryz.prog 35 #[.agg #[.int .i64 yop, .int .i64 yn, .string ys, .slice yka ykn ykc, .slice yna yns.length ync, .slice ya yl.length ycc]] U (SpOk (pC (ConD.mk yop yn ys yk (.slice yna yns.length ync) yns (.slice ya yl.length ycc) yl)) U)) := fun U hU => by
    have := spine_any (fun b => b ≠ w.heap.size/\b ≠ w.heap.size + 1) (ConD.mk yop yn ys yk (.slice yna yns.length ync) yns (.slice ya yl.length ycc) yl) U ((HE.out.below HB.out).below hU) (iBQ hy hU) hby hvy
    rw [HYV.out] at this
    exact this
   have HC : Hid (∀ U, Below w1.heap.size w1 U->Calls Tryz.prog 27 #[.agg #[.int .i64 yop, .int .i64 yn, .string ys, .slice yka ykn ykc, .slice yna yns.length ync, .slice ya yl.length ycc]] U fun e w' => ConOut (fun b => U.heap.size<=b) (pC (ConD.mk yop yn ys yk (.slice yna yns.length ync) yns (.slice ya yl.length ycc) yl)) e w'/\Below U.heap.size U w') := fun U hU => by
    have := copied_any (fun b => b ≠ w.heap.size/\b ≠ w.heap.size + 1) (ConD.mk yop yn ys yk (.slice yna yns.length ync) yns (.slice ya yl.length ycc) yl) U (iBQ hy hU) hfy (by omega)
    rw [HYV.out] at this
    exact this
   have HSV := hJQ (And.intro (spine_val hvy) (spine_bnd hfy hby))
   have HFY := hJQ (spineN_len (sizeC (pC (ConD.mk yop yn ys yk (.slice yna yns.length ync) yns (.slice ya yl.length ycc) yl))) (pC (ConD.mk yop yn ys yk (.slice yna yns.length ync) yns (.slice ya yl.length ycc) yl)) [] hfy)
   have HZY := hJQ hzy
   clear hy hvy hby hce HB1 hyk HYV hzy hfy
   generalize pC (ConD.mk yop yn ys yk (.slice yna yns.length ync) yns (.slice ya yl.length ycc) yl) = TY at *
   obtain ⟨c0, c1, c2, c3, c4, c5⟩ := cnQ kB
   clear kB
   go_wp2_with fail
   refine (HSP.out _ (Below.refl _ _)).mono ?_
   rintro e w3 ⟨dd, oa, oc, ds, rfl, hdd, hpd, hL, hpl, hb3⟩
   have hdz := hdd
   obtain ⟨zop, zn, zs, zk, zns, zl, zka, zkn, zkc, zna, znc, za, zcc, rfl, hzk, _⟩ := cSQ hdd
   rw [cVQ (op := zop) (n := zn) (s := zs) (nv := .slice zna zns.length znc) (lv := .slice za zl.length zcc) (ns := zns) (l := zl) hzk]
   obtain ⟨hgZ, kZ, hrow, kZ2, hb34⟩ := fresh_put w3 #[.int .i64 zop, .int .i64 zn, .string zs, .slice zka zkn zkc, .slice zna zns.length znc, .slice za zl.length zcc]
   have hs3 := hb3.size
   have hb4 := hb3.trans (hb34.mono hs3)
   have HR4 := hJQ ((hb4.block _ hsr2).trans HR.out)
   have HB4 := hJQ ((hb4.block _ (hLQ HKB.out)).trans HKB.out)
   have HBB := hJQ hb4
   have HB34 := hJQ hb34
   have HZ2 := hJQ kZ2
   have HPD := hJQ hpd
   have HPL := hJQ hpl
   have HDZ := hJQ hdz
   have HL := hJQ hL
   clear hgZ hrow kZ2 hb4 hb34 hdd hpd hL hpl hb3 hzk hdz HSP
   go_upto_region 6 with (refine wpList_store_row rfl 28 _ _ rfl w3.heap.size _ rfl rfl 28 _ kZ cIQ rfl (all_one _ rfl) ?_)
   clear kZ c0 c1 c2 c3 c4 c5
   have HSV0 : Hid (((w3.alloc (.cells #[.int .i64 0, .int .i64 0, .string ⟨#[]⟩, .slice none 0 0, .slice none 0 0, .slice none 0 0] 28)).setRow w3.heap.size #[.int .i64 zop, .int .i64 zn, .string zs, .slice zka zkn zkc, .slice zna zns.length znc, .slice za zl.length zcc]).heap.size = w3.heap.size + 1) := by show _ = _; rw [size_setRow]; simp
   generalize (w3.alloc (.cells #[.int .i64 0, .int .i64 0, .string ⟨#[]⟩, .slice none 0 0, .slice none 0 0, .slice none 0 0] 28)).setRow w3.heap.size #[.int .i64 zop, .int .i64 zn, .string zs, .slice zka zkn zkc, .slice zna zns.length znc, .slice za zl.length zcc] = V at *
   obtain ⟨z0, z1, z2, z3, z4, z5⟩ := cnQ HZ2.out
   obtain ⟨c0, c1, c2, c3, c4, c5⟩ := cnQ HB4.out
   have HEND : Hid (∀ e w5, ConOut (fun b => V.heap.size<=b) TY e w5/\Below V.heap.size V w5->∃ yop yn ys yk yns yl yka ykn ykc yna ync ya ycc, e = .returned (.agg #[.int .i64 yop, .int .i64 yn, .string ys, .slice yka ykn ykc, .slice yna yns.length ync, .slice ya yl.length ycc])/\Hid (IsCon (fun b => V.heap.size<=b) w5 (ConD.mk yop yn ys yk (.slice yna yns.length ync) yns (.slice ya yl.length ycc) yl)/\pC (ConD.mk yop yn ys yk (.slice yna yns.length ync) yns (.slice ya yl.length ycc) yl) = TY/\conV (ConD.mk yop yn ys yk (.slice yna yns.length ync) yns (.slice ya yl.length ycc) yl) = .agg #[.int .i64 yop, .int .i64 yn, .string ys, .slice yka ykn ykc, .slice yna yns.length ync, .slice ya yl.length ycc])/\Hid (Below V.heap.size V w5)) := by
    rintro e w5 ⟨⟨d5, rfl, hd5, hp5⟩, hb5⟩
    obtain ⟨yop, yn, ys, yk, yns, yl, yka, ykn, ykc, yna, ync, ya, ycc, rfl, hyk, _⟩ := cSQ hd5
    exact ⟨yop, yn, ys, yk, yns, yl, yka, ykn, ykc, yna, ync, ya, ycc, by rw [cVQ (op := yop) (n := yn) (s := ys) (nv := .slice yna yns.length ync) (lv := .slice ya yl.length ycc) (ns := yns) (l := yl) hyk], ⟨hd5, hp5, cVQ (op := yop) (n := yn) (s := ys) (nv := .slice yna yns.length ync) (lv := .slice ya yl.length ycc) (ns := yns) (l := yl) hyk⟩, hb5⟩
   have HBB2 := hJQ (HB.out.trans (HBB.out.mono hsr))
   have HSV2 := HSV.out
   rw [← HPD.out, ← HPL.out] at HSV2
   have HSV3 := hJQ HSV2
   clear HSV2 HSV
   by_cases hf : zop = 11
   ·subst hf
    have HOP : Hid ((spineC TY).1.op = 11) := by show _ = _; rw [← HPD.out, pMQ]; rfl
    cases ds with
    | nil =>
      have HSN : Hid ((spineC TY).1.op ≠ 11 ∨ (spineC TY).2 = []) := .inr (by rw [← HPL.out]; rfl)
      have HR0 : Hid (Rr = (TY, 0)) := by show _ = _; rw [HHD.out, headF_done (step_none (HSN.out))]; rfl
      go_wp2_with fail
      refine (HC.out _ HBB.out).mono ?_
      intro e w5 he
      obtain ⟨yop, yn, ys, yk, yns, yl, yka, ykn, ykc, yna, ync, ya, ycc, rfl, HY5, hb5⟩ := HEND.out e w5 he
      have hs5 := hb5.out.size
      have kR5 := (hb5.out.block _ (hLQ HR4.out)).trans HR4.out
      have hrow := gRQ w5 (w.heap.size + 1) #[.int .i64 yop, .int .i64 yn, .string ys, .slice yka ykn ykc, .slice yna yns.length ync, .slice ya yl.length ycc]
      have HRF := hJQ (setRow_heap w5 (w.heap.size + 1) _ #[.int .i64 yop, .int .i64 yn, .string ys, .slice yka ykn ykc, .slice yna yns.length ync, .slice ya yl.length ycc] _ _ kR5)
      have hsV : w.heap.size + 2<=V.heap.size := by have := hLQ HZ2.out; omega
      have HBF := hJQ ((HBB2.out.trans (hb5.out.mono HBB2.out.size)).trans (gUQ (B := w.heap.size) hrow (by omega) (fun q hq => by have e2 : w.heap.size + 1 = q := oJQ hq; omega)))
      have HDF := hJQ ((HY5.out.1.grown hrow (fun q hq hp => by have e2 : w.heap.size + 1 = q := oJQ hq; have hp : V.heap.size<=q := hp; omega)).mono (Q := fun b => w.heap.size<=b) (fun b hb _ => by have hb : V.heap.size<=b := hb; show w.heap.size<=b; omega))
      clear hrow
      go_wp2_with (refine wpList_store_row rfl 28 _ _ rfl (w.heap.size + 1) _ rfl rfl 28 _ kR5 cIQ rfl (all_one _ rfl) ?_)
      refine bodyPost_ret (res2 rfl rfl rfl HRF.out) rfl (pairOk HY5.out.2.2.symm HDF.out (by rw [HY5.out.2.1, HR0.out]) HBF.out (by rw [HR0.out]))
    | cons ad rd =>
      have hlen2 : ((ad :: rd).length) = rd.length + 1 := rfl
      obtain ⟨m, hm⟩ : ∃ m, rd.length = m := ⟨_, rfl⟩
      have HM := hJQ hm
      rw [hlen2, hm] at HL ⊢
      clear hlen2 hm
      obtain ⟨g0, rfl, hoc, hg0, hg1⟩ := HL.out.addr (Nat.succ_pos _)
      have hoc : m + 1<=oc := by have h1 := HM.out; have h2 : (ad :: rd).length = rd.length + 1 := rfl; omega
      have hmb : m<=20000 := by
       have h3 := HFY.out
       have h4 : (ad :: rd).length = (spineC TY).2.length := by rw [← HPL.out, List.length_map]
       have h5 : (spineC TY).2.length<=0 + sizeC TY := h3
       have h6 := HZY.out
       have h7 : (ad :: rd).length = rd.length + 1 := rfl
       have h8 := HM.out
       omega
      have hoc1 : (1 : Int)<=(oc : Int) := by omega
      have hn0 : (((m : Int) + 1) == 0) = false := nEQ (by omega)
      have HSTP := HSV3.out
      obtain ⟨q, rfl⟩ : ∃ q, zl = [q] := one_part (k := pK zk) (by have := (val_iff.1 HSTP.1.1).2.2; rw [pMQ] at this; exact this) rfl
      have hqr := part_0 (x := q) (l := []) HDZ.out.parts.row
      have hqc := HDZ.out.parts.all q (by simp)
      obtain ⟨qop, qn, qs, qk, qns, ql, qka, qkn, qkc, qna, qnc, qa, qcc, rfl, hqk, _⟩ := cSQ hqc
      obtain ⟨b, off, rfl, ⟨hPb, hbl⟩, q0, q1, q2, q3, q4, q5⟩ := hqr
      rw [show (ConD.mk qop qn qs qk (.slice qna qns.length qnc) qns (.slice qa ql.length qcc) ql).k.v = _ from hqk] at q3
      have HQC : Hid (w3.cell? ⟨b, off, none⟩ = some (.int .i64 qop)/\w3.cell? ⟨b, off + 1, none⟩ = some (.int .i64 qn)/\w3.cell? ⟨b, off + 2, none⟩ = some (.string qs)/\w3.cell? ⟨b, off + 3, none⟩ = some (.slice qka qkn qkc)/\w3.cell? ⟨b, off + 4, none⟩ = some (.slice qna qns.length qnc)/\w3.cell? ⟨b, off + 5, none⟩ = some (.slice qa ql.length qcc)) := ⟨q0, q1, q2, q3, q4, q5⟩
      have HZP : Hid (pC (ConD.mk 11 zn zs zk (.slice zna zns.length znc) zns (.slice (some ⟨b, off, none⟩) [(ConD.mk qop qn qs qk (.slice qna qns.length qnc) qns (.slice qa ql.length qcc) ql)].length zcc) [(ConD.mk qop qn qs qk (.slice qna qns.length qnc) qns (.slice qa ql.length qcc) ql)]) = .mk 11 zn zs (pK zk) zns [pC (ConD.mk qop qn qs qk (.slice qna qns.length qnc) qns (.slice qa ql.length qcc) ql)]) := pMQ ..
      rw [HZP.out] at HSTP
      have hvq := (val_part HSTP.1.1 (x := pC (ConD.mk qop qn qs qk (.slice qna qns.length qnc) qns (.slice qa ql.length qcc) ql)) (by simp)).1
      have hbq := bnd_part HSTP.2.1 (x := pC (ConD.mk qop qn qs qk (.slice qna qns.length qnc) qns (.slice qa ql.length qcc) ql)) (by simp)
      have hva := HSTP.1.2 (pC ad) (by simp)
      have hba := HSTP.2.2 (pC ad) (by simp)
      have HTEL : Hid (∀ x ∈ rd, valC (pC x) = true/\bndC (pC x)) := fun x hx => ⟨HSTP.1.2 _ (List.mem_map_of_mem (List.mem_cons_of_mem _ hx)), HSTP.2.2 _ (List.mem_map_of_mem (List.mem_cons_of_mem _ hx))⟩
      have hbT := bnd_subst [pC ad] (fun x hx => by rw [List.mem_singleton.1 hx]; exact hba) (pC (ConD.mk qop qn qs qk (.slice qna qns.length qnc) qns (.slice qa ql.length qcc) ql)) 0 hbq
      obtain ⟨T, hT⟩ : ∃ T, sC9 [pC ad] 0 (pC (ConD.mk qop qn qs qk (.slice qna qns.length qnc) qns (.slice qa ql.length qcc) ql)) = T := ⟨_, rfl⟩
      rw [hT] at hbT
      have HSTEP : Hid (stepC TY = some ((rd.map pC).foldl appC T)) := by
       show _ = _
       rw [step_cons (a := pC ad) (r := rd.map pC) HOP.out HPL.out.symm, ← HPD.out, HZP.out, ← hT]; rfl
      have hrow3 := HL.out.row (P := fun b => w1.heap.size<=b) (fun _ h => h)
      have HQV := hJQ (cVQ (op := qop) (n := qn) (s := qs) (nv := .slice qna qns.length qnc) (lv := .slice qa ql.length qcc) (ns := qns) (l := ql) hqk)
      have HSU : Hid (∀ U, Below V.heap.size V U->Calls Tryz.prog 36 #[.agg #[.int .i64 qop, .int .i64 qn, .string qs, .slice qka qkn qkc, .slice qna qns.length qnc, .slice qa ql.length qcc], .slice (some ⟨g0, 0, none⟩) 1 oc] U (ReplOk T U)) := fun U hU => by
       have hU3 : Below w3.heap.size w3 U := HB34.out.trans (hU.mono (by have := HSV0.out; omega))
       have := subst_any (fun b => w1.heap.size<=b) (ConD.mk qop qn qs qk (.slice qna qns.length qnc) qns (.slice qa ql.length qcc) ql) (some ⟨g0, 0, none⟩) oc [ad] U ((HE.out.below HB.out).below ((HBB.out.trans (hU.mono HBB.out.size)))) (iBQ hqc hU3) hvq hbq ((rowP_one (r := rd) (n := m + 1) (by have h1 := hrow3.1; rw [show (ad :: rd).length = m + 1 from by rw [← HM.out]; rfl] at h1; exact h1.keep hU3.size (fun b _ hlt => hU3.block b hlt)) (by omega))) (fun z hz => by rw [List.mem_singleton.1 hz]; exact iBQ (hrow3.2 ad (by simp)) hU3) (fun z hz => by rw [List.mem_singleton.1 hz]; exact ⟨hva, hba⟩) (by simp) (by rw [List.map_cons, List.map_nil, hT]; exact hbT)
       rw [HQV.out, List.map_cons, List.map_nil, hT] at this
       exact this
      have HSS : Hid (∀ U, Below V.heap.size V U->(fun w9 => w9.cell? ⟨w3.heap.size, 5, none⟩ = some (.slice (some ⟨b, off, none⟩) 1 zcc)/\w9.cell? ⟨b, off, none⟩ = some (.int .i64 qop)/\w9.cell? ⟨b, off + 1, none⟩ = some (.int .i64 qn)/\w9.cell? ⟨b, off + 2, none⟩ = some (.string qs)/\w9.cell? ⟨b, off + 3, none⟩ = some (.slice qka qkn qkc)/\w9.cell? ⟨b, off + 4, none⟩ = some (.slice qna qns.length qnc)/\w9.cell? ⟨b, off + 5, none⟩ = some (.slice qa ql.length qcc)) U) := fun U hU => by
       have hU3 : Below w3.heap.size w3 U := HB34.out.trans (hU.mono (by have := HSV0.out; omega))
       have hq : ∀ (o : Nat) (v : Value), w3.cell? ⟨b, o, none⟩ = some v->U.cell? ⟨b, o, none⟩ = some v := fun o v hc => (World.cell?_of_block (a := ⟨b, o, none⟩) (hU3.block b hbl)).trans hc
       obtain ⟨q0, q1, q2, q3, q4, q5⟩ := HQC.out
       exact ⟨(cnQ ((hU.block _ (hLQ HZ2.out)).trans HZ2.out)).2.2.2.2.2, hq _ _ q0, hq _ _ q1, hq _ _ q2, hq _ _ q3, hq _ _ q4, hq _ _ q5⟩
      have HBT := hJQ hbT
      clear q0 q1 q2 q3 q4 q5 hqc hqk hvq hbq hva hba hbT hT hrow3 HSTP HC HEND HSV3 HQC HZP HQV
      cases gk with
      | zero =>
        obtain rfl : i = 10000 := by omega
        have HZR : Hid (Rr = (zeroN, 27)) := by show _ = _; rw [HHD.out, headF_none HSTEP.out (.inl rfl)]; rfl
        obtain ⟨HRF, HBF⟩ := put_res HBB2.out HR4.out #[.int .i64 0, .int .i64 0, .string ⟨#[]⟩, .slice none 0 0, .slice none 0 0, .slice none 0 0]
        go_wp2_with (refine wpList_store_row rfl 28 _ _ rfl (w.heap.size + 1) _ rfl rfl 28 _ HR4.out cIQ rfl (all_one _ rfl) ?_)
        exact bodyPost_ret (res2 rfl rfl rfl HRF.out) rfl (pair_zero HBF.out (HZR.out))
      | succ K =>
        have hi : ((i : Int) == 10000) = false := nEQ (by omega)
        go_upto_region 12 with fail
        have hbD : Below V.heap.size V V.drew := (Below.refl _ _).drew
        go_cut [7, 8] (fun v7 v8 wx => ∃ (gb : Nat) (d : ConD) (er : Int), v7 = .int .i64 er/\v8 = .pointer (some ⟨gb, 0, none⟩)/\Hid (Below V.heap.size V wx/\IsCon (fun b => V.heap.size<=b/\b ≠ gb) wx d/\wx.heap[gb]? = some (.cells (cEQ d).toArray 28)/\V.heap.size<=gb/\(valC T = true->er = 0/\pC d = T)/\(valC T = false->er = 6)))
        case first =>
         refine wp_region_held_drew (S := (fun w9 => w9.cell? ⟨w3.heap.size, 5, none⟩ = some (.slice (some ⟨b, off, none⟩) 1 zcc)/\w9.cell? ⟨b, off, none⟩ = some (.int .i64 qop)/\w9.cell? ⟨b, off + 1, none⟩ = some (.int .i64 qn)/\w9.cell? ⟨b, off + 2, none⟩ = some (.string qs)/\w9.cell? ⟨b, off + 3, none⟩ = some (.slice qka qkn qkc)/\w9.cell? ⟨b, off + 4, none⟩ = some (.slice qna qns.length qnc)/\w9.cell? ⟨b, off + 5, none⟩ = some (.slice qa ql.length qcc))) (by kernel_rfl) (HSS.out _ hbD) (fun hHeld => ?_)
         refine tks (b := ?_) (by kernel_rfl) (fun _ _ _ _ _ h => h) (HSS.out _ hbD) 6 [0, 1, 2, 3, 4, 5] (by kernel_rfl) ?_ ?_
         rotate_left
         ·iterate 6 (refine yc (v := ?_) rfl rfl (by rfl) (fun w9 hSw => ?_) ?_; rotate_left; (focus go_simp; try rfl); simp only [Act.put, l1Q, l2Q, l3Q])
          exact rfl
         refine wpAnyH_ready (rs := [6, 10]) (by kernel_rfl) (by simp) (AllReadyH.cons (by rfl) (fun K hK => ?u6) (AllReadyH.cons (by rfl) (fun K hK => ?u10) (AllReadyH.nil)))
         case u6 =>
          go_simp
          go_at_call 36
          refine (HSU.out _ hbD).mono ?_
          rintro e w5 ⟨d, er, rfl, hd, hb5, hyes, hno⟩
          obtain ⟨eop, en, es, ek, ens, el, eka, ekn, ekc, ena, enc, ea, ecc, rfl, hek, _⟩ := cSQ hd
          have HEV := hJQ (cVQ (op := eop) (n := en) (s := es) (nv := .slice ena ens.length enc) (lv := .slice ea el.length ecc) (ns := ens) (l := el) hek)
          rw [HEV.out]
          have hbS := hbD.trans (hb5.mono hbD.size)
          refine hK.out _ _ (HSS.out _ hbS) (fun _ => ?_)
          clear hK K
          refine tks (b := ?_) (by kernel_rfl) (fun _ _ _ _ _ h => h) (HSS.out _ hbS) 3 [7, 8, 9] (by kernel_rfl) ?_ ?_
          rotate_left
          ·iterate 3 (refine yc (v := ?_) rfl rfl (by rfl) (fun w9 hSw => ?_) ?_; rotate_left; (focus go_simp; try rfl); simp only [Act.put, l1Q, l2Q, l3Q])
           exact rfl
          refine rd1 10 (by kernel_rfl) (by rfl) (fun K hK => ?_)
          go_simp
          have hga := gAQ w5 (.cells #[.int .i64 0, .int .i64 0, .string ⟨#[]⟩, .slice none 0 0, .slice none 0 0, .slice none 0 0] 28)
          have hbA := hbS.trans (gUQ hga hbS.size (by nofun))
          refine hK.out _ _ (HSS.out _ hbA) (fun _ => ?_)
          clear hK K
          have kL := nHQ w5 (.cells #[.int .i64 0, .int .i64 0, .string ⟨#[]⟩, .slice none 0 0, .slice none 0 0, .slice none 0 0] 28)
          have hs5 := hbS.size
          have hrw := gRQ (w5.alloc (.cells #[.int .i64 0, .int .i64 0, .string ⟨#[]⟩, .slice none 0 0, .slice none 0 0, .slice none 0 0] 28)) w5.heap.size #[.int .i64 eop, .int .i64 en, .string es, .slice eka ekn ekc, .slice ena ens.length enc, .slice ea el.length ecc]
          have hbF : Below V.heap.size V ((w5.alloc (.cells #[.int .i64 0, .int .i64 0, .string ⟨#[]⟩, .slice none 0 0, .slice none 0 0, .slice none 0 0] 28)).setRow w5.heap.size #[.int .i64 eop, .int .i64 en, .string es, .slice eka ekn ekc, .slice ena ens.length enc, .slice ea el.length ecc]) := hbA.trans (gUQ hrw hbA.size (fun q hq => by have e2 : w5.heap.size = q := oJQ hq; omega))
          refine held_store 11 (by kernel_rfl) (by rfl) (by rfl) (by rfl) 28 _ _ (by rfl) (w5.heap.size) #[.int .i64 eop, .int .i64 en, .string es, .slice eka ekn ekc, .slice ena ens.length enc, .slice ea el.length ecc] (by rfl) (by rfl) 28 _ kL cIQ rfl (all_one _ rfl) (HSS.out _ hbF) ?_
          refine tks (b := ?_) (by kernel_rfl) (fun _ _ _ _ _ h => h) (HSS.out _ hbF) 1 [12] (by kernel_rfl) ?_ ?_
          rotate_left
          ·refine yc (v := ?_) rfl rfl (by rfl) (fun w9 hSw => ?_) ?_; rotate_left; (focus go_simp; try rfl); simp only [Act.put, l1Q, l2Q, l3Q]
           exact rfl
          refine wpAnyH_done (by kernel_rfl) ?_ _
          have hkE := setRow_heap (w5.alloc (.cells #[.int .i64 0, .int .i64 0, .string ⟨#[]⟩, .slice none 0 0, .slice none 0 0, .slice none 0 0] 28)) (w5.heap.size) _ #[.int .i64 eop, .int .i64 en, .string es, .slice eka ekn ekc, .slice ena ens.length enc, .slice ea el.length ecc] _ _ kL
          have hdF := ((hd.lt.mono (Q := fun b => V.heap.size<=b/\b ≠ w5.heap.size) (fun b hb _ => by have h1 : V.heap.size<=b := hb.1; have h2 := hb.2; exact ⟨h1, by omega⟩)).grown hga (by nofun)).grown hrw (fun q hq hp => hp.2 (oJQ hq).symm)
          go_wp2_with fail
          go_meet
          exact ⟨w5.heap.size, (ConD.mk eop en es ek (.slice ena ens.length enc) ens (.slice ea el.length ecc) el), er, rfl, rfl, ⟨hbF, hdF, by rw [hkE]; show _ = some (Obj.cells #[_, _, _, ek.v, _, _] _ _); rw [hek]; rfl, by omega, hyes, fun hv => (hno hv).1⟩⟩
         case u10 =>
          go_simp
          have hga := gAQ V.drew (.cells #[.int .i64 0, .int .i64 0, .string ⟨#[]⟩, .slice none 0 0, .slice none 0 0, .slice none 0 0] 28)
          have hbA := hbD.trans (gUQ hga hbD.size (by nofun))
          have hsA : (V.drew.alloc (.cells #[.int .i64 0, .int .i64 0, .string ⟨#[]⟩, .slice none 0 0, .slice none 0 0, .slice none 0 0] 28)).heap.size = V.heap.size + 1 := by simp
          refine hK.out _ _ (HSS.out _ hbA) (fun _ => ?_)
          clear hK K
          have kL0 : (V.drew.alloc (.cells #[.int .i64 0, .int .i64 0, .string ⟨#[]⟩, .slice none 0 0, .slice none 0 0, .slice none 0 0] 28)).heap[V.heap.size]? = some (.cells #[.int .i64 0, .int .i64 0, .string ⟨#[]⟩, .slice none 0 0, .slice none 0 0, .slice none 0 0] 28) := nHQ V.drew (.cells #[.int .i64 0, .int .i64 0, .string ⟨#[]⟩, .slice none 0 0, .slice none 0 0, .slice none 0 0] 28)
          refine rd1 6 (by kernel_rfl) (by rfl) (fun K hK => ?_)
          go_simp
          go_at_call 36
          refine (HSU.out _ hbA).mono ?_
          rintro e w5 ⟨d, er, rfl, hd, hb5, hyes, hno⟩
          obtain ⟨eop, en, es, ek, ens, el, eka, ekn, ekc, ena, enc, ea, ecc, rfl, hek, _⟩ := cSQ hd
          have HEV := hJQ (cVQ (op := eop) (n := en) (s := es) (nv := .slice ena ens.length enc) (lv := .slice ea el.length ecc) (ns := ens) (l := el) hek)
          rw [HEV.out]
          have hbS := hbA.trans (hb5.mono hbA.size)
          refine hK.out _ _ (HSS.out _ hbS) (fun _ => ?_)
          clear hK K
          refine tks (b := ?_) (by kernel_rfl) (fun _ _ _ _ _ h => h) (HSS.out _ hbS) 3 [7, 8, 9] (by kernel_rfl) ?_ ?_
          rotate_left
          ·iterate 3 (refine yc (v := ?_) rfl rfl (by rfl) (fun w9 hSw => ?_) ?_; rotate_left; (focus go_simp; try rfl); simp only [Act.put, l1Q, l2Q, l3Q])
           exact rfl
          have kL := (hb5.block _ (by omega)).trans kL0
          have hs5 := hbS.size
          have hrw := gRQ w5 V.heap.size #[.int .i64 eop, .int .i64 en, .string es, .slice eka ekn ekc, .slice ena ens.length enc, .slice ea el.length ecc]
          have hbF : Below V.heap.size V (w5.setRow V.heap.size #[.int .i64 eop, .int .i64 en, .string es, .slice eka ekn ekc, .slice ena ens.length enc, .slice ea el.length ecc]) := hbS.trans (gUQ hrw hbS.size (fun q hq => by have e2 : V.heap.size = q := oJQ hq; omega))
          refine held_store 11 (by kernel_rfl) (by rfl) (by rfl) (by rfl) 28 _ _ (by rfl) (V.heap.size) #[.int .i64 eop, .int .i64 en, .string es, .slice eka ekn ekc, .slice ena ens.length enc, .slice ea el.length ecc] (by rfl) (by rfl) 28 _ kL cIQ rfl (all_one _ rfl) (HSS.out _ hbF) ?_
          refine tks (b := ?_) (by kernel_rfl) (fun _ _ _ _ _ h => h) (HSS.out _ hbF) 1 [12] (by kernel_rfl) ?_ ?_
          rotate_left
          ·refine yc (v := ?_) rfl rfl (by rfl) (fun w9 hSw => ?_) ?_; rotate_left; (focus go_simp; try rfl); simp only [Act.put, l1Q, l2Q, l3Q]
           exact rfl
          refine wpAnyH_done (by kernel_rfl) ?_ _
          have hkE := setRow_heap w5 (V.heap.size) _ #[.int .i64 eop, .int .i64 en, .string es, .slice eka ekn ekc, .slice ena ens.length enc, .slice ea el.length ecc] _ _ kL
          have hdF := ((hd.mono (Q := fun b => V.heap.size<=b/\b ≠ V.heap.size) (fun b hb _ => by have h1 : (V.drew.alloc (.cells #[.int .i64 0, .int .i64 0, .string ⟨#[]⟩, .slice none 0 0, .slice none 0 0, .slice none 0 0] 28)).heap.size<=b := hb; exact ⟨by omega, by omega⟩))).grown hrw (fun q hq hp => hp.2 (oJQ hq).symm)
          go_wp2_with fail
          go_meet
          exact ⟨V.heap.size, (ConD.mk eop en es ek (.slice ena ens.length enc) ens (.slice ea el.length ecc) el), er, rfl, rfl, ⟨hbF, hdF, by rw [hkE]; show _ = some (Obj.cells #[_, _, _, ek.v, _, _] _ _); rw [hek]; rfl, by omega, hyes, fun hv => (hno hv).1⟩⟩
        case rest =>
         obtain ⟨gb, d, er, rfl, rfl, HVX⟩ := hcut
         clear HSU HSS hbD
         obtain ⟨hbx, hdx, hgx, hgb, hyes, hno⟩ := HVX.out
         have kR5 := (hbx.block _ (hLQ HR4.out)).trans HR4.out
         have HR5 := hJQ kR5
         have HB5 := hJQ ((hbx.block _ (hLQ HB4.out)).trans HB4.out)
         have hbb5 := HBB2.out.trans (hbx.mono HBB2.out.size)
         have HBB2X := HBB2
         have HTF : Hid (valC T = false->valC ((rd.map pC).foldl appC T) = false) := fun hv => by
          cases hq : valC ((rd.map pC).foldl appC T)
          ·rfl
          ·rw [fold_val _ _ hq] at hv; cases hv
         have HR4X := HR4
         have HB4X := HB4
         clear HR4 HB4 HBB2 c0 c1 c2 c3 c4 c5 z0 z1 z2 z3 z4 z5 HZ2
         cases hvT : valC T
         ·obtain rfl := hno hvT
          have HZR : Hid (Rr = (zeroN, 27)) := by show _ = _; rw [HHD.out, headF_none HSTEP.out (.inr (HTF.out hvT))]; rfl
          clear hyes hno hvT
          obtain ⟨HRF, HBF⟩ := put_res hbb5 kR5 #[.int .i64 0, .int .i64 0, .string ⟨#[]⟩, .slice none 0 0, .slice none 0 0, .slice none 0 0]
          go_wp2_with (refine wpList_store_row rfl 28 _ _ rfl (w.heap.size + 1) _ rfl rfl 28 _ kR5 cIQ rfl (all_one _ rfl) ?_)
          exact bodyPost_ret (res2 rfl rfl rfl HRF.out) rfl (pair_zero HBF.out (HZR.out))
         ·obtain ⟨rfl, hpd⟩ := hyes hvT
          have HVT := hJQ hvT
          have HBX5 := hJQ hbx
          have HST2 : Hid (IsCon (fun b => w1.heap.size<=b/\b ≠ gb) wc d/\pC d = ((rd.take 0).map pC).foldl appC T) := ⟨hdx.mono (fun b hb _ => ⟨by have := hb.1; have := HSV0.out; omega, hb.2⟩), by rw [hpd]; rfl⟩
          have HGX := hJQ hgx
          clear hyes hno hvT HTF hbx hdx hgx hpd kR5 hbb5 HVX
          go_upto_region 15 with fail
          go_cut [53, 54, 55] (fun v53 v54 v55 wx => wx = wc/\v54 = .int .i64 m/\v55 = .int .i64 0/\∃ o9 c9 : Nat, v53 = .slice (some ⟨g0, o9, none⟩) m c9/\m<=c9/\(0 < m->o9 = 6))
          case first =>
           have hoc2 : (1 : Int)<=(m : Int) + 1 := by omega
           by_cases ho : oc = 1
           ·have ho1 : (oc = 1) = True := eq_true ho
            have hm0 : ¬ 0 < m := by omega
            go_wp2_with fail
            go_meet
            exact ⟨rfl, rfl, rfl, _, _, rfl, by omega, fun h => absurd h hm0⟩
           ·have ho1 : (oc = 1) = False := eq_false ho
            go_wp2_with fail
            go_meet
            exact ⟨rfl, rfl, rfl, _, _, rfl, by omega, fun _ => rfl⟩
          case rest =>
           obtain ⟨rfl, rfl, rfl, o9, c9, rfl, hc9, hA9⟩ := hcut
           have HA9 := hJQ hA9
           clear hA9
           go_wp2_with fail
           go_loopg [55] m (fun g2 lv9 wx => ∃ (j : Nat) (gd : ConD), lv9 = .int .i64 j/\j + g2 = m/\Hid (IsCon (fun b => w1.heap.size<=b/\b ≠ gb) wx gd/\pC gd = ((rd.take j).map pC).foldl appC T)/\Hid (wx.heap[gb]? = some (.cells (cEQ gd).toArray 28))/\Hid (Below V.heap.size V wx))
           case atStart => exact ⟨0, d, rfl, by omega, HST2, HGX, HBX5⟩
           case round =>
            clear HST2 HGX HBX5
            rename World => w6
            obtain ⟨j, gd, rfl, hjm, HG, HGB, HBV⟩ := hrel
            have hg6 := HG.out.1
            have hpg := hJQ HG.out.2
            obtain ⟨pop, pn, ps, pk, pns, pl, pka, pkn, pkc, pna, pnc, pa, pcc, rfl, hpk, _⟩ := cSQ hg6
            have hge : cEQ (ConD.mk pop pn ps pk (.slice pna pns.length pnc) pns (.slice pa pl.length pcc) pl) = [.int .i64 pop, .int .i64 pn, .string ps, .slice pka pkn pkc, .slice pna pns.length pnc, .slice pa pl.length pcc] := by show [_, _, _, pk.v, _, _] = _; rw [hpk]; rfl
            have HGE := hJQ hge
            have HGV := hJQ (cVQ (op := pop) (n := pn) (s := ps) (nv := .slice pna pns.length pnc) (lv := .slice pa pl.length pcc) (ns := pns) (l := pl) hpk)
            have kG : w6.heap[gb]? = some (.cells #[.int .i64 pop, .int .i64 pn, .string ps, .slice pka pkn pkc, .slice pna pns.length pnc, .slice pa pl.length pcc] 28) := by rw [HGB.out, hge]
            have HKG := hJQ kG
            have hb36 : Below w3.heap.size w3 w6 := HB34.out.trans (HBV.out.mono (by have := HSV0.out; omega))
            have hbw6 := HBB2X.out.trans (HBV.out.mono HBB2X.out.size)
            have HBW6 := hJQ hbw6
            have hs6 := hb36.size
            have HG6 := hJQ hg6
            clear hge hpk HG HGB hbw6 hg6
            by_cases hj : j < m
            ·obtain ⟨K2, rfl⟩ : ∃ K2, gk = K2 + 1 := ⟨gk - 1, by omega⟩
             have hr3 := HL.out.row (P := fun b => w1.heap.size<=b) (fun _ h => h)
             have hr6 := hr3.1.lt.keep hb36.size (fun b _ hlt => hb36.block b hlt)
             rw [show (ad :: rd).length = m + 1 from by rw [← HM.out]; rfl] at hr6
             have hrt := rowP_tail hr6 (off' := o9) (c' := c9) (HA9.out (by omega)) hc9
             have hrt : RowP (fun b => w1.heap.size<=b/\b ≠ gb) w6 (.slice (some ⟨g0, o9, none⟩) rd.length c9) rd.length (cCQ rd) := by rw [HM.out]; exact hrt.mono (fun b hb hlt => ⟨hb.1, by have := hb.2; have := HSV0.out; omega⟩)
             have hall : ∀ y ∈ rd, IsCon (fun b => w1.heap.size<=b/\b ≠ gb) w6 y := fun y hy => iBQ ((hr3.2 y (by simp [hy])).lt.mono (fun b hb _ => ⟨hb.1, by have := hb.2; have := HSV0.out; omega⟩)) hb36
             obtain ⟨b8, off8, top, tn, ts, tk, tns, tl, tka, tkn, tkc, tna, tnc, ta, tcc, ead, hbl8, hq8, ht8, hmem8, hv8, HT8, e0, e1, e2, e3, e4, e5⟩ := part_at hrt hall j (by rw [HM.out]; exact hj)
             injection ead with ead
             injection ead with ea1 ea2 ea3
             subst ea1; subst ea2
             obtain ⟨hgA, kA, hrA, kT, hb67⟩ := fresh_put w6 #[.int .i64 top, .int .i64 tn, .string ts, .slice tka tkn tkc, .slice tna tns.length tnc, .slice ta tl.length tcc]
             have kG7 := (hb67.block _ (hLQ HKG.out)).trans HKG.out
             have HT8 := hJQ ht8
             have HQ8 := hJQ hq8
             have HTC : Hid (cEQ (ConD.mk top tn ts tk (.slice tna tns.length tnc) tns (.slice ta tl.length tcc) tl) = [.int .i64 top, .int .i64 tn, .string ts, .slice tka tkn tkc, .slice tna tns.length tnc, .slice ta tl.length tcc]) := Array.toList_inj.2 (Value.agg.inj hv8)
             have HP7 := hJQ (iBQ HG6.out hb67)
             have HT7 := hJQ (iBQ ht8 hb67)
             have HB7 := hJQ (HBV.out.trans (hb67.mono HBV.out.size))
             have hs7 := hb67.size
             have hgl := hLQ HKG.out
             clear hgA hrA hb67 hr3 hr6 hrt hall ht8 hq8 hmem8 hv8 HT8 hb36
             go_upto_region 18 with (refine wpList_store_row rfl 28 _ _ rfl w6.heap.size _ rfl rfl 28 _ kA cIQ rfl (all_one _ rfl) ?_)
             clear kA e0 e1 e2 e3 e4 e5
             generalize ((w6.alloc (.cells #[.int .i64 0, .int .i64 0, .string ⟨#[]⟩, .slice none 0 0, .slice none 0 0, .slice none 0 0] 28)).setRow w6.heap.size #[.int .i64 top, .int .i64 tn, .string ts, .slice tka tkn tkc, .slice tna tns.length tnc, .slice ta tl.length tcc]) = w7 at *
             obtain ⟨t0, t1, t2, t3, t4, t5⟩ := cnQ kT
             obtain ⟨p0, p1, p2, p3, p4, p5⟩ := cnQ kG7
             have hgR := gAQ w7 (.cells #[.int .i64 pop, .int .i64 pn, .string ps, .slice pka pkn pkc, .slice pna pns.length pnc, .slice pa pl.length pcc, .int .i64 top, .int .i64 tn, .string ts, .slice tka tkn tkc, .slice tna tns.length tnc, .slice ta tl.length tcc] 28)
             have kG8 := (hgR.block gb (by omega) (by nofun)).trans kG7
             have hgS := gBQ (fNQ hgR (some gb)) (gRQ (w7.alloc (.cells #[.int .i64 pop, .int .i64 pn, .string ps, .slice pka pkn pkc, .slice pna pns.length pnc, .slice pa pl.length pcc, .int .i64 top, .int .i64 tn, .string ts, .slice tka tkn tkc, .slice tna tns.length tnc, .slice ta tl.length tcc] 28)) gb #[.int .i64 12, .int .i64 0, .string ⟨#[]⟩, .slice none 0 0, .slice none 0 0, .slice (some ⟨w7.heap.size, 0, none⟩) 2 2])
             have kN : ((w7.alloc (.cells #[.int .i64 pop, .int .i64 pn, .string ps, .slice pka pkn pkc, .slice pna pns.length pnc, .slice pa pl.length pcc, .int .i64 top, .int .i64 tn, .string ts, .slice tka tkn tkc, .slice tna tns.length tnc, .slice ta tl.length tcc] 28)).setRow gb #[.int .i64 12, .int .i64 0, .string ⟨#[]⟩, .slice none 0 0, .slice none 0 0, .slice (some ⟨w7.heap.size, 0, none⟩) 2 2]).heap[w7.heap.size]? = some (.cells (cEQ (ConD.mk pop pn ps pk (.slice pna pns.length pnc) pns (.slice pa pl.length pcc) pl) ++ cEQ (ConD.mk top tn ts tk (.slice tna tns.length tnc) tns (.slice ta tl.length tcc) tl)).toArray 28) := by
              rw [HGE.out, HTC.out]
              exact (setRow_other _ _ _ _ (by omega)).trans (nHQ w7 (.cells #[.int .i64 pop, .int .i64 pn, .string ps, .slice pka pkn pkc, .slice pna pns.length pnc, .slice pa pl.length pcc, .int .i64 top, .int .i64 tn, .string ts, .slice tka tkn tkc, .slice tna tns.length tnc, .slice ta tl.length tcc] 28))
             have HND : Hid (IsCon (fun b => w1.heap.size<=b/\b ≠ gb) ((w7.alloc (.cells #[.int .i64 pop, .int .i64 pn, .string ps, .slice pka pkn pkc, .slice pna pns.length pnc, .slice pa pl.length pcc, .int .i64 top, .int .i64 tn, .string ts, .slice tka tkn tkc, .slice tna tns.length tnc, .slice ta tl.length tcc] 28)).setRow gb #[.int .i64 12, .int .i64 0, .string ⟨#[]⟩, .slice none 0 0, .slice none 0 0, .slice (some ⟨w7.heap.size, 0, none⟩) 2 2]) (ConD.mk 12 0 ⟨#[]⟩ (.mk (.slice none 0 0) []) (.slice none 0 0) [] (.slice (some ⟨w7.heap.size, 0, none⟩) 2 2) [(ConD.mk pop pn ps pk (.slice pna pns.length pnc) pns (.slice pa pl.length pcc) pl), (ConD.mk top tn ts tk (.slice tna tns.length tnc) tns (.slice ta tl.length tcc) tl)])/\pC (ConD.mk 12 0 ⟨#[]⟩ (.mk (.slice none 0 0) []) (.slice none 0 0) [] (.slice (some ⟨w7.heap.size, 0, none⟩) 2 2) [(ConD.mk pop pn ps pk (.slice pna pns.length pnc) pns (.slice pa pl.length pcc) pl), (ConD.mk top tn ts tk (.slice tna tns.length tnc) tns (.slice ta tl.length tcc) tl)]) = ((rd.take (j + 1)).map pC).foldl appC T) := by
              refine ⟨app_con (HP7.out.grown hgS (fun q hq hp => hp.2 (oJQ hq).symm)) (HT7.out.grown hgS (fun q hq hp => hp.2 (oJQ hq).symm)) ⟨by omega, by omega⟩ kN, ?_⟩
              rw [app_pure, fold_take appC T rd j (by rw [HM.out]; exact hj), HQ8.out, hpg.out]
             have HNB : Hid (((w7.alloc (.cells #[.int .i64 pop, .int .i64 pn, .string ps, .slice pka pkn pkc, .slice pna pns.length pnc, .slice pa pl.length pcc, .int .i64 top, .int .i64 tn, .string ts, .slice tka tkn tkc, .slice tna tns.length tnc, .slice ta tl.length tcc] 28)).setRow gb #[.int .i64 12, .int .i64 0, .string ⟨#[]⟩, .slice none 0 0, .slice none 0 0, .slice (some ⟨w7.heap.size, 0, none⟩) 2 2]).heap[gb]? = some (.cells (cEQ (ConD.mk 12 0 ⟨#[]⟩ (.mk (.slice none 0 0) []) (.slice none 0 0) [] (.slice (some ⟨w7.heap.size, 0, none⟩) 2 2) [(ConD.mk pop pn ps pk (.slice pna pns.length pnc) pns (.slice pa pl.length pcc) pl), (ConD.mk top tn ts tk (.slice tna tns.length tnc) tns (.slice ta tl.length tcc) tl)])).toArray 28)) := setRow_heap _ gb _ #[.int .i64 12, .int .i64 0, .string ⟨#[]⟩, .slice none 0 0, .slice none 0 0, .slice (some ⟨w7.heap.size, 0, none⟩) 2 2] _ _ kG8
             have HNV := hJQ (HB7.out.trans (gUQ hgS HB7.out.size (fun q hq => by have e2 : gb = q := oJQ hq; omega)))
             clear hgR hgS kN
             go_wp2_with (refine wpList_store_row rfl 28 _ _ rfl gb _ rfl rfl 28 _ kG8 cIQ rfl (all_one _ rfl) ?_)
             go_roundg K2
             case measure => omega
             case rel => exact ⟨j + 1, (ConD.mk 12 0 ⟨#[]⟩ (.mk (.slice none 0 0) []) (.slice none 0 0) [] (.slice (some ⟨w7.heap.size, 0, none⟩) 2 2) [(ConD.mk pop pn ps pk (.slice pna pns.length pnc) pns (.slice pa pl.length pcc) pl), (ConD.mk top tn ts tk (.slice tna tns.length tnc) tns (.slice ta tl.length tcc) tl)]), by go_num, (Nat.add_right_comm j 1 K2).trans hjm, HND, HNB, HNV⟩
            ·have hje : m = j := by omega
             subst hje
             have htk : rd.take m = rd := by rw [← HM.out]; exact List.take_length
             have hpe := hpg.out
             rw [htk] at hpe
             have hsz : sizeC ((rd.map pC).foldl appC T)<=1000000000 := by
              have h1 := fold_size (rd.map pC) T (fun x hx => by obtain ⟨y, hy, rfl⟩ := List.mem_map.1 hx; exact (val_iff.1 (HTEL.out y hy).1).1)
              have h2 := (val_iff.1 HVT.out).1
              have h3 := HM.out
              rw [List.length_map] at h1
              have h8 : rd.length * 20001<=20000 * 20001 := Nat.mul_le_mul_right _ (by omega)
              omega
             have hbn := fold_bnd (rd.map pC) T HBT.out (fun x hx => by obtain ⟨y, hy, rfl⟩ := List.mem_map.1 hx; exact (HTEL.out y hy).2)
             have HVG : Hid (Calls Tryz.prog 25 #[.agg #[.int .i64 pop, .int .i64 pn, .string ps, .slice pka pkn pkc, .slice pna pns.length pnc, .slice pa pl.length pcc]] w6 fun e w' => e = .returned (.bool (valC ((rd.map pC).foldl appC T)))/\Below w6.heap.size w6 w') := by
              have := valid_any (fun b => w1.heap.size<=b/\b ≠ gb) (ConD.mk pop pn ps pk (.slice pna pns.length pnc) pns (.slice pa pl.length pcc) pl) w6 (HE.out.below HBW6.out) HG6.out (by rw [hpe]; exact hbn) (by rw [hpe]; exact hsz)
              rw [HGV.out, hpe] at this
              exact this
             have HPE := hJQ hpe
             have HBN := hJQ hbn
             obtain ⟨p0, p1, p2, p3, p4, p5⟩ := cnQ kG
             obtain ⟨vt, hvt⟩ : ∃ v, valC ((rd.map pC).foldl appC T) = v := ⟨_, rfl⟩
             rw [hvt] at HVG
             have HVT2 := hJQ hvt
             clear hsz hbn hpe htk hvt hb36 hpg
             go_wp2_with fail
             refine HVG.out.mono ?_
             rintro e w7 ⟨rfl, hb7⟩
             have hbw7 := HBW6.out.trans (hb7.mono HBW6.out.size)
             have kc7 : ∀ q o, q < V.heap.size->V.heap[q]? = some o->w7.heap[q]? = some o := fun q o hq ho => ((hb7.block q (by have := HBV.out.size; omega)).trans (HBV.out.block q hq)).trans ho
             have kR7 := kc7 _ _ (hLQ HR4X.out) HR4X.out
             have kB7 := kc7 _ _ (hLQ HB4X.out) HB4X.out
             have kG7 := (hb7.block _ (hLQ HKG.out)).trans HKG.out
             clear kc7 p0 p1 p2 p3 p4 p5 HVG kG
             cases vt
             ·have HZR : Hid (Rr = (zeroN, 27)) := by show _ = _; rw [HHD.out, headF_none HSTEP.out (.inr HVT2.out)]; rfl
              obtain ⟨HRF, HBF⟩ := put_res hbw7 kR7 #[.int .i64 0, .int .i64 0, .string ⟨#[]⟩, .slice none 0 0, .slice none 0 0, .slice none 0 0]
              go_wp2_with (refine wpList_store_row rfl 28 _ _ rfl (w.heap.size + 1) _ rfl rfl 28 _ kR7 cIQ rfl (all_one _ rfl) ?_)
              exact bodyPost_ret (res2 rfl rfl rfl HRF.out) rfl (pair_zero HBF.out (HZR.out))
             ·have HP7 := hJQ (iBQ HG6.out hb7)
              have hrow := gRQ w7 w.heap.size #[.int .i64 pop, .int .i64 pn, .string ps, .slice pka pkn pkc, .slice pna pns.length pnc, .slice pa pl.length pcc]
              have HNY : Hid (IsCon (fun b => b ≠ w.heap.size/\b ≠ w.heap.size + 1) (w7.setRow w.heap.size #[.int .i64 pop, .int .i64 pn, .string ps, .slice pka pkn pkc, .slice pna pns.length pnc, .slice pa pl.length pcc]) (ConD.mk pop pn ps pk (.slice pna pns.length pnc) pns (.slice pa pl.length pcc) pl)/\valC (pC (ConD.mk pop pn ps pk (.slice pna pns.length pnc) pns (.slice pa pl.length pcc) pl)) = true/\bndC (pC (ConD.mk pop pn ps pk (.slice pna pns.length pnc) pns (.slice pa pl.length pcc) pl))/\Rr = orBudget (headF K (pC (ConD.mk pop pn ps pk (.slice pna pns.length pnc) pns (.slice pa pl.length pcc) pl)))) := by
               refine ⟨(HP7.out.grown hrow (fun q hq hp => by have e2 : w.heap.size = q := oJQ hq; have := hp.1; omega)).mono (fun b hb _ => ⟨by have := hb.1; omega, by have := hb.1; omega⟩), ?_, ?_, ?_⟩
               ·rw [HPE.out]; exact HVT2.out
               ·rw [HPE.out]; exact HBN.out
               ·rw [HHD.out, headF_step HSTEP.out HVT2.out, HPE.out]
              have HNK : Hid ((w7.setRow w.heap.size #[.int .i64 pop, .int .i64 pn, .string ps, .slice pka pkn pkc, .slice pna pns.length pnc, .slice pa pl.length pcc]).heap[w.heap.size]? = some (.cells (cEQ (ConD.mk pop pn ps pk (.slice pna pns.length pnc) pns (.slice pa pl.length pcc) pl)).toArray 28)) := by
               rw [HGE.out]; exact setRow_heap w7 w.heap.size _ #[.int .i64 pop, .int .i64 pn, .string ps, .slice pka pkn pkc, .slice pna pns.length pnc, .slice pa pl.length pcc] _ _ kB7
              have HNR := hJQ ((hrow.block (w.heap.size + 1) (hLQ kR7) (fun e => by have e2 : w.heap.size + 1 = w.heap.size := oJQ e; omega)).trans kR7)
              have HNB := hJQ (hbw7.trans (gUQ hrow hbw7.size (fun q hq => by have e2 : w.heap.size = q := oJQ hq; omega)))
              obtain ⟨p0, p1, p2, p3, p4, p5⟩ := cnQ kG7
              clear hrow
              go_wp2_with (refine wpList_store_row rfl 28 _ _ rfl w.heap.size _ rfl rfl 28 _ kB7 cIQ rfl (all_one _ rfl) ?_)
              go_roundg K
              case measure => omega
              case rel => exact ⟨i + 1, (ConD.mk pop pn ps pk (.slice pna pns.length pnc) pns (.slice pa pl.length pcc) pl), by go_num, by omega, HNY, HNK, HNR, HNB⟩
   ·have hf' : (zop != 11) = true := nNQ hf
    have HSN : Hid ((spineC TY).1.op ≠ 11 ∨ (spineC TY).2 = []) := .inl (by rw [← HPD.out, pMQ]; exact hf)
    have HR0 : Hid (Rr = (TY, 0)) := by show _ = _; rw [HHD.out, headF_done (step_none (HSN.out))]; rfl
    go_wp2_with fail
    refine (HC.out _ HBB.out).mono ?_
    intro e w5 he
    obtain ⟨yop, yn, ys, yk, yns, yl, yka, ykn, ykc, yna, ync, ya, ycc, rfl, HY5, hb5⟩ := HEND.out e w5 he
    have hs5 := hb5.out.size
    have kR5 := (hb5.out.block _ (hLQ HR4.out)).trans HR4.out
    have hrow := gRQ w5 (w.heap.size + 1) #[.int .i64 yop, .int .i64 yn, .string ys, .slice yka ykn ykc, .slice yna yns.length ync, .slice ya yl.length ycc]
    have HRF := hJQ (setRow_heap w5 (w.heap.size + 1) _ #[.int .i64 yop, .int .i64 yn, .string ys, .slice yka ykn ykc, .slice yna yns.length ync, .slice ya yl.length ycc] _ _ kR5)
    have hsV : w.heap.size + 2<=V.heap.size := by have := hLQ HZ2.out; omega
    have HBF := hJQ ((HBB2.out.trans (hb5.out.mono HBB2.out.size)).trans (gUQ (B := w.heap.size) hrow (by omega) (fun q hq => by have e2 : w.heap.size + 1 = q := oJQ hq; omega)))
    have HDF := hJQ ((HY5.out.1.grown hrow (fun q hq hp => by have e2 : w.heap.size + 1 = q := oJQ hq; have hp : V.heap.size<=q := hp; omega)).mono (Q := fun b => w.heap.size<=b) (fun b hb _ => by have hb : V.heap.size<=b := hb; show w.heap.size<=b; omega))
    clear hrow
    go_wp2_with (refine wpList_store_row rfl 28 _ _ rfl (w.heap.size + 1) _ rfl rfl 28 _ kR5 cIQ rfl (all_one _ rfl) ?_)
    refine bodyPost_ret (res2 rfl rfl rfl HRF.out) rfl (pairOk HY5.out.2.2.symm HDF.out (by rw [HY5.out.2.1, HR0.out]) HBF.out (by rw [HR0.out]))
end Go.Proofs.YtkiffgdinmpljaaGreatDoor
