/- The reference's Head. Printed by gen_rhead.py, expanded by mac.py. The reference's Same of strings, SameKind, Same, at equal arguments. Printed by gen_rsame.py, expanded by mac.py. -/
import Derived.Test.YtkiffgdinmpljaaGreatDoorF37
import Derived.Test.YtkiffgdinmpljaaGreatDoorF33
import Derived.Test.YtkiffgdinmpljaaGreatDoorF14
import Derived.Test.YtkiffgdinmpljaaGreatDoorF5
set_option linter.unusedVariables false
set_option linter.unusedSimpArgs false
namespace Go.Proofs.YtkiffgdinmpljaaGreatDoor
open Go Go.RowKit
set_option maxHeartbeats 8000000
set_option maxRecDepth 100000
theorem rhead_any (P : Nat->Prop) (x : ConD) (w : World) (h : IsCon P w x) (hb : bndC (pC x)) :
 Calls Tryz.prog 16 #[conV x] w (PairOk (fun _ => True) (headR (pC x)) w) := by
 have hxl := h.lt
 obtain ⟨xop, xn, xs, xk, xns, xl, xka, xkn, xkc, xna, xnc, xa, xcc, rfl, hxk, _⟩ := cSQ h
 have HXV := hJQ (cVQ (op := xop) (n := xn) (s := xs) (nv := .slice xna xns.length xnc) (lv := .slice xa xl.length xcc) (ns := xns) (l := xl) hxk)
 rw [HXV.out]
 obtain ⟨g1, kR, kB, hbW, hsW⟩ := two_box (nHQ w (.cells #[.int .i64 xop, .int .i64 xn, .string xs, .slice xka xkn xkc, .slice xna xns.length xnc, .slice xa xl.length xcc] 28))
 have HSW := hJQ hsW
 clear hsW
 have HV : Hid (∀ U, Below w.heap.size w U->Calls Tryz.prog 12 #[.agg #[.int .i64 xop, .int .i64 xn, .string xs, .slice xka xkn xkc, .slice xna xns.length xnc, .slice xa xl.length xcc]] U fun e w' => e = .returned (.bool (valC (pC (ConD.mk xop xn xs xk (.slice xna xns.length xnc) xns (.slice xa xl.length xcc) xl))))/\Below U.heap.size U w') := fun U hU => by
  have := rvalid_any P (ConD.mk xop xn xs xk (.slice xna xns.length xnc) xns (.slice xa xl.length xcc) xl) U (iBQ h hU) hb
  rw [HXV.out] at this
  exact this
 have HCE : Hid (cEQ (ConD.mk xop xn xs xk (.slice xna xns.length xnc) xns (.slice xa xl.length xcc) xl) = [.int .i64 xop, .int .i64 xn, .string xs, .slice xka xkn xkc, .slice xna xns.length xnc, .slice xa xl.length xcc]) := by show [_, _, _, xk.v, _, _] = _; rw [hxk]; rfl
 have HX0 := hJQ (hxl.mono (Q := (fun b => b ≠ w.heap.size/\b ≠ w.heap.size + 1)) (fun b hb _ => ⟨by have := hb.2; omega, by have := hb.2; omega⟩))
 have HBX := hJQ hb
 obtain ⟨c0, c1, c2, c3, c4, c5⟩ := cnQ kB
 have HB0 := hJQ kB
 have HR0 := hJQ kR
 obtain ⟨Rr, hRr⟩ : ∃ r, headR (pC (ConD.mk xop xn xs xk (.slice xna xns.length xnc) xns (.slice xa xl.length xcc) xl)) = r := ⟨_, rfl⟩
 have HRV : Hid (valC (pC (ConD.mk xop xn xs xk (.slice xna xns.length xnc) xns (.slice xa xl.length xcc) xl)) = true->Rr = orBudget (headF 10000 (pC (ConD.mk xop xn xs xk (.slice xna xns.length xnc) xns (.slice xa xl.length xcc) xl)))) := fun hv => by rw [← hRr]; unfold headR; rw [if_pos hv]
 have HRN : Hid (valC (pC (ConD.mk xop xn xs xk (.slice xna xns.length xnc) xns (.slice xa xl.length xcc) xl)) = false->Rr = (zeroN, 1)) := fun hv => by rw [← hRr]; unfold headR; rw [if_neg (by rw [hv]; decide)]
 rw [hRr]
 clear h hb g1 kB kR hxk hxl hRr
 obtain ⟨bv, hbv⟩ : ∃ b, valC (pC (ConD.mk xop xn xs xk (.slice xna xns.length xnc) xns (.slice xa xl.length xcc) xl)) = b := ⟨_, rfl⟩
 rw [hbv] at HV HRV HRN
 have HBV := hJQ hbv
 clear hbv
 go_enter Tryz.func16, Tryz.ntmps16
 go_upto_region 1 with fail
 generalize ((w.alloc (.cells #[.int .i64 xop, .int .i64 xn, .string xs, .slice xka xkn xkc, .slice xna xns.length xnc, .slice xa xl.length xcc] 28)).alloc (.cells #[.int .i64 0, .int .i64 0, .string ⟨#[]⟩, .slice none 0 0, .slice none 0 0, .slice none 0 0] 28)) = W at *
 go_wp2_with fail
 refine (HV.out _ hbW).mono ?_
 rintro e w2 ⟨rfl, hb2⟩
 have hbw := hbW.trans (hb2.mono hbW.size)
 have HB2 := hJQ ((hb2.block _ (hLQ HB0.out)).trans HB0.out)
 have kR2 := (hb2.block _ (hLQ HR0.out)).trans HR0.out
 have HR2 := hJQ kR2
 clear c0 c1 c2 c3 c4 c5 HV hb2 HB0 HR0 hbW
 cases bv
 ·have HZR := hJQ (HRN.out rfl)
  obtain ⟨HRF, HBF⟩ := put_res hbw kR2 #[.int .i64 0, .int .i64 0, .string ⟨#[]⟩, .slice none 0 0, .slice none 0 0, .slice none 0 0]
  go_wp2_with (refine wpList_store_row rfl 28 _ _ rfl (w.heap.size + 1) _ rfl rfl 28 _ kR2 cIQ rfl (all_one _ rfl) ?_)
  exact bodyPost_ret (res2 rfl rfl rfl HRF.out) rfl (pair_zero HBF.out (HZR.out))
 ·have HBW := hJQ hbw
  have HST : Hid (IsCon (fun b => b ≠ w.heap.size/\b ≠ w.heap.size + 1) w2 (ConD.mk xop xn xs xk (.slice xna xns.length xnc) xns (.slice xa xl.length xcc) xl)/\valC (pC (ConD.mk xop xn xs xk (.slice xna xns.length xnc) xns (.slice xa xl.length xcc) xl)) = true/\bndC (pC (ConD.mk xop xn xs xk (.slice xna xns.length xnc) xns (.slice xa xl.length xcc) xl))/\Rr = orBudget (headF 10000 (pC (ConD.mk xop xn xs xk (.slice xna xns.length xnc) xns (.slice xa xl.length xcc) xl)))) := ⟨iBQ HX0.out hbw, HBV.out, HBX.out, HRV.out rfl⟩
  clear HRN HRV HBV HBX hbw kR2 HX0
  go_wp2_with fail
  go_loopg [4] 10000 (fun k lv9 wr => ∃ (i : Nat) (y : ConD), lv9 = .int .i64 i/\i + k = 10000/\Hid (IsCon (fun b => b ≠ w.heap.size/\b ≠ w.heap.size + 1) wr y/\valC (pC y) = true/\bndC (pC y)/\Rr = orBudget (headF k (pC y)))/\Hid (wr.heap[w.heap.size]? = some (.cells (cEQ y).toArray 28))/\Hid (wr.heap[(w.heap.size + 1)]? = some (.cells #[.int .i64 0, .int .i64 0, .string ⟨#[]⟩, .slice none 0 0, .slice none 0 0, .slice none 0 0] 28))/\Hid (Below w.heap.size w wr))
  case atStart => exact ⟨0, (ConD.mk xop xn xs xk (.slice xna xns.length xnc) xns (.slice xa xl.length xcc) xl), rfl, rfl, HST, by rw [HCE.out]; exact HB2, HR2, HBW⟩
  case round =>
   rename World => w1
   clear HST HCE HB2 HR2 HBW HXV
   obtain ⟨i, y, rfl, hik, HY, HB1, HR, HB⟩ := hrel
   obtain ⟨hy, hvy, hby, hhd⟩ := HY.out
   have HHD := hJQ hhd
   clear hhd HY
   obtain ⟨yop, yn, ys, yk, yns, yl, yka, ykn, ykc, yna, ync, ya, ycc, rfl, hyk, _⟩ := cSQ hy
   have hce : cEQ (ConD.mk yop yn ys yk (.slice yna yns.length ync) yns (.slice ya yl.length ycc) yl) = [.int .i64 yop, .int .i64 yn, .string ys, .slice yka ykn ykc, .slice yna yns.length ync, .slice ya yl.length ycc] := by show [_, _, _, yk.v, _, _] = _; rw [hyk]; rfl
   have kB : w1.heap[w.heap.size]? = some (.cells #[.int .i64 yop, .int .i64 yn, .string ys, .slice yka ykn ykc, .slice yna yns.length ync, .slice ya yl.length ycc] 28) := by rw [HB1.out, hce]
   have HKB := hJQ kB
   have HYV := hJQ (cVQ (op := yop) (n := yn) (s := ys) (nv := .slice yna yns.length ync) (lv := .slice ya yl.length ycc) (ns := yns) (l := yl) hyk)
   have hsr := HB.out.size
   have hsr2 := hLQ HR.out
   have HSP : Hid (Calls Tryz.prog 37 #[.agg #[.int .i64 yop, .int .i64 yn, .string ys, .slice yka ykn ykc, .slice yna yns.length ync, .slice ya yl.length ycc]] w1 (RStepOk (fun b => b ≠ w.heap.size/\b ≠ w.heap.size + 1) (stepC (pC (ConD.mk yop yn ys yk (.slice yna yns.length ync) yns (.slice ya yl.length ycc) yl))) w1)) := by
    have := rstep_any (ConD.mk yop yn ys yk (.slice yna yns.length ync) yns (.slice ya yl.length ycc) yl) (fun b => b ≠ w.heap.size/\b ≠ w.heap.size + 1) w1 (fun b hb => ⟨by omega, by omega⟩) hy hvy hby
    rw [HYV.out] at this
    exact this
   have HYC := hJQ hy
   clear hy hvy hby hce HB1 hyk
   obtain ⟨TY, hTY⟩ : ∃ T, pC (ConD.mk yop yn ys yk (.slice yna yns.length ync) yns (.slice ya yl.length ycc) yl) = T := ⟨_, rfl⟩
   rw [hTY] at HSP HHD
   have HTY := hJQ hTY
   clear hTY
   obtain ⟨c0, c1, c2, c3, c4, c5⟩ := cnQ kB
   clear kB
   go_wp2_with fail
   refine HSP.out.mono ?_
   rintro e w3 ⟨dd, bb, rfl, hdd, hb3, hno, hyes⟩
   have hdz := hdd
   obtain ⟨zop, zn, zs, zk, zns, zl, zka, zkn, zkc, zna, znc, za, zcc, rfl, hzk, _⟩ := cSQ hdd
   have HZV := hJQ (cVQ (op := zop) (n := zn) (s := zs) (nv := .slice zna zns.length znc) (lv := .slice za zl.length zcc) (ns := zns) (l := zl) hzk)
   rw [HZV.out]
   obtain ⟨hgZ, kZ, hrow, kZ2, hb34⟩ := fresh_put w3 #[.int .i64 zop, .int .i64 zn, .string zs, .slice zka zkn zkc, .slice zna zns.length znc, .slice za zl.length zcc]
   have hs3 := hb3.size
   have hb4 := hb3.trans (hb34.mono hs3)
   have kR4 := (hb4.block _ hsr2).trans HR.out
   have HB4 := hJQ ((hb4.block _ (hLQ HKB.out)).trans HKB.out)
   have hbb := HB.out.trans (hb4.mono hsr)
   have HZ2 := hJQ kZ2
   have HDZ := hJQ (iBQ hdz hb34)
   have HYV2 := hJQ (iBQ HYC.out hb4)
   have HNO := hJQ hno
   have HYES := hJQ hyes
   have HZK : Hid (cEQ (ConD.mk zop zn zs zk (.slice zna zns.length znc) zns (.slice za zl.length zcc) zl) = [.int .i64 zop, .int .i64 zn, .string zs, .slice zka zkn zkc, .slice zna zns.length znc, .slice za zl.length zcc]) := by show [_, _, _, zk.v, _, _] = _; rw [hzk]; rfl
   clear hgZ hrow kZ2 hb4 hb34 hdd hno hyes hb3 hzk hdz HSP HYC
   go_upto_region 6 with (refine wpList_store_row rfl 28 _ _ rfl w3.heap.size _ rfl rfl 28 _ kZ cIQ rfl (all_one _ rfl) ?_)
   clear kZ c0 c1 c2 c3 c4 c5
   generalize (w3.alloc (.cells #[.int .i64 0, .int .i64 0, .string ⟨#[]⟩, .slice none 0 0, .slice none 0 0, .slice none 0 0] 28)).setRow w3.heap.size #[.int .i64 zop, .int .i64 zn, .string zs, .slice zka zkn zkc, .slice zna zns.length znc, .slice za zl.length zcc] = V at *
   obtain ⟨z0, z1, z2, z3, z4, z5⟩ := cnQ HZ2.out
   obtain ⟨c0, c1, c2, c3, c4, c5⟩ := cnQ HB4.out
   cases bb
   ·have HST : Hid (stepC TY = none) := by
     show stepC TY = none
     cases hs : stepC TY with
     | none => rfl
     | some t => have := (HYES.out t hs).1; cases this
    have HRR : Hid (Rr = (TY, 0)) := by show _ = _; rw [HHD.out, headF_done HST.out]; rfl
    have hsz9 := hbb.size
    have hltR := hLQ kR4
    have hrow := gRQ V (w.heap.size + 1) #[.int .i64 yop, .int .i64 yn, .string ys, .slice yka ykn ykc, .slice yna yns.length ync, .slice ya yl.length ycc]
    have HRF := hJQ (setRow_heap V (w.heap.size + 1) _ #[.int .i64 yop, .int .i64 yn, .string ys, .slice yka ykn ykc, .slice yna yns.length ync, .slice ya yl.length ycc] _ _ kR4)
    have HBF := hJQ (hbb.trans (gUQ (B := w.heap.size) hrow (by omega) (fun q hq => by have e2 : w.heap.size + 1 = q := oJQ hq; omega)))
    have HDF := hJQ ((HYV2.out.grown hrow (fun q hq hp => hp.2 (oJQ hq).symm)).mono (Q := fun _ => True) (fun _ _ _ => trivial))
    clear hrow
    go_wp2_with (refine wpList_store_row rfl 28 _ _ rfl (w.heap.size + 1) _ rfl rfl 28 _ kR4 cIQ rfl (all_one _ rfl) ?_)
    refine bodyPost_ret (res2 rfl rfl rfl HRF.out) rfl (pairOk HYV.out.symm HDF.out (by rw [HTY.out, HRR.out]) HBF.out (by rw [HRR.out]))
   ·obtain ⟨t, hst⟩ : ∃ t, stepC TY = some t := by
     cases hs : stepC TY with
     | none => have := HNO.out hs; cases this
     | some t => exact ⟨t, rfl⟩
    obtain ⟨_, hy1, hy2, hy3⟩ := HYES.out t hst
    have HST := hJQ hst
    have hvz : valC (pC (ConD.mk zop zn zs zk (.slice zna zns.length znc) zns (.slice za zl.length zcc) zl)) = valC t := by
     cases hv : valC t
     ·exact hy2 hv
     ·rw [hy1 hv]; exact hv
    have HVL : Hid (Calls Tryz.prog 12 #[.agg #[.int .i64 zop, .int .i64 zn, .string zs, .slice zka zkn zkc, .slice zna zns.length znc, .slice za zl.length zcc]] V fun e w' => e = .returned (.bool (valC t))/\Below V.heap.size V w') := by
     have := rvalid_any (fun b => b ≠ w.heap.size/\b ≠ w.heap.size + 1) (ConD.mk zop zn zs zk (.slice zna zns.length znc) zns (.slice za zl.length zcc) zl) V HDZ.out hy3
     rw [HZV.out, hvz] at this
     exact this
    have HY1 := hJQ hy1
    have HY3 := hJQ hy3
    clear hst hy1 hy2 hy3 hvz HNO HYES
    cases gk with
    | zero =>
      obtain rfl : i = 10000 := by omega
      have HZR : Hid (Rr = (zeroN, 27)) := by show _ = _; rw [HHD.out, headF_none HST.out (.inl rfl)]; rfl
      obtain ⟨HRF, HBF⟩ := put_res hbb kR4 #[.int .i64 0, .int .i64 0, .string ⟨#[]⟩, .slice none 0 0, .slice none 0 0, .slice none 0 0]
      go_wp2_with (refine wpList_store_row rfl 28 _ _ rfl (w.heap.size + 1) _ rfl rfl 28 _ kR4 cIQ rfl (all_one _ rfl) ?_)
      exact bodyPost_ret (res2 rfl rfl rfl HRF.out) rfl (pair_zero HBF.out (HZR.out))
    | succ K =>
      have hi : ((i : Int) == 10000) = false := nEQ (by omega)
      obtain ⟨vt, hvt⟩ : ∃ v, valC t = v := ⟨_, rfl⟩
      rw [hvt] at HVL
      have HVT := hJQ hvt
      clear hvt
      go_wp2_with fail
      refine HVL.out.mono ?_
      rintro e w5 ⟨rfl, hb5⟩
      have hbb5 := hbb.trans (hb5.mono hbb.size)
      have kR5 := (hb5.block _ (hLQ kR4)).trans kR4
      have kB5 := (hb5.block _ (hLQ HB4.out)).trans HB4.out
      have kZ5 := (hb5.block _ (hLQ HZ2.out)).trans HZ2.out
      clear c0 c1 c2 c3 c4 c5 z0 z1 z2 z3 z4 z5
      cases vt
      ·have HZR : Hid (Rr = (zeroN, 27)) := by show _ = _; rw [HHD.out, headF_none HST.out (.inr HVT.out)]; rfl
       obtain ⟨HRF, HBF⟩ := put_res hbb5 kR5 #[.int .i64 0, .int .i64 0, .string ⟨#[]⟩, .slice none 0 0, .slice none 0 0, .slice none 0 0]
       go_wp2_with (refine wpList_store_row rfl 28 _ _ rfl (w.heap.size + 1) _ rfl rfl 28 _ kR5 cIQ rfl (all_one _ rfl) ?_)
       exact bodyPost_ret (res2 rfl rfl rfl HRF.out) rfl (pair_zero HBF.out (HZR.out))
      ·have hpz := HY1.out HVT.out
       have hrow := gRQ w5 w.heap.size #[.int .i64 zop, .int .i64 zn, .string zs, .slice zka zkn zkc, .slice zna zns.length znc, .slice za zl.length zcc]
       have hs5 := hbb5.size
       have HNY : Hid (IsCon (fun b => b ≠ w.heap.size/\b ≠ w.heap.size + 1) (w5.setRow w.heap.size #[.int .i64 zop, .int .i64 zn, .string zs, .slice zka zkn zkc, .slice zna zns.length znc, .slice za zl.length zcc]) (ConD.mk zop zn zs zk (.slice zna zns.length znc) zns (.slice za zl.length zcc) zl)/\valC (pC (ConD.mk zop zn zs zk (.slice zna zns.length znc) zns (.slice za zl.length zcc) zl)) = true/\bndC (pC (ConD.mk zop zn zs zk (.slice zna zns.length znc) zns (.slice za zl.length zcc) zl))/\Rr = orBudget (headF K (pC (ConD.mk zop zn zs zk (.slice zna zns.length znc) zns (.slice za zl.length zcc) zl)))) := by
        refine ⟨(iBQ HDZ.out hb5).grown hrow (fun q hq hp => hp.1 (oJQ hq).symm), by rw [hpz]; exact HVT.out, HY3.out, ?_⟩
        rw [HHD.out, headF_step HST.out HVT.out, hpz]
       have HNK : Hid ((w5.setRow w.heap.size #[.int .i64 zop, .int .i64 zn, .string zs, .slice zka zkn zkc, .slice zna zns.length znc, .slice za zl.length zcc]).heap[w.heap.size]? = some (.cells (cEQ (ConD.mk zop zn zs zk (.slice zna zns.length znc) zns (.slice za zl.length zcc) zl)).toArray 28)) := by
        rw [HZK.out]; exact setRow_heap w5 w.heap.size _ #[.int .i64 zop, .int .i64 zn, .string zs, .slice zka zkn zkc, .slice zna zns.length znc, .slice za zl.length zcc] _ _ kB5
       have HNR := hJQ ((hrow.block (w.heap.size + 1) (hLQ kR5) (fun e => by have e2 : w.heap.size + 1 = w.heap.size := oJQ e; omega)).trans kR5)
       have HNB := hJQ (hbb5.trans (gUQ hrow hbb5.size (fun q hq => by have e2 : w.heap.size = q := oJQ hq; omega)))
       obtain ⟨z0, z1, z2, z3, z4, z5⟩ := cnQ kZ5
       clear hrow hpz
       go_wp2_with (refine wpList_store_row rfl 28 _ _ rfl w.heap.size _ rfl rfl 28 _ kB5 cIQ rfl (all_one _ rfl) ?_)
       go_roundg K
       case measure => omega
       case rel => exact ⟨i + 1, (ConD.mk zop zn zs zk (.slice zna zns.length znc) zns (.slice za zl.length zcc) zl), by go_num, by omega, HNY, HNK, HNR, HNB⟩
theorem row_cell {P : Nat->Prop} {w : World} {v : Value} {n : Nat} {xs : List Value} (h : RowP P w v n xs) (j : Nat) (hj : j < xs.length) (hn : 0 < n) : ∃ b off c, v = .slice (some ⟨b, off, none⟩) n c/\b < w.heap.size/\w.cell? ⟨b, off + j, none⟩ = some (xs.getD j undef) := by
 obtain ⟨a, c, rfl, hlc, hcell⟩ := h
 obtain ⟨b, off, rfl, hp, hlt, hc⟩ := hcell hn
 exact ⟨b, off, c, rfl, hlt, hc j hj⟩
theorem strCells_getD (l : List ByteArray) (j : Nat) (hj : j < l.length) : (strCells l).getD j undef = .string (l.getD j ⟨#[]⟩) := by
 unfold strCells; simp [List.getD, hj]
end Go.Proofs.YtkiffgdinmpljaaGreatDoor
