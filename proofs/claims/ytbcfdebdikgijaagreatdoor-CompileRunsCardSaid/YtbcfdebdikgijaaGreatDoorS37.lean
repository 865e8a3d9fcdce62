/- Part of the proof; its texts: Rz4. -/
import Derived.Test.YtbcfdebdikgijaaGreatDoorS35
import Derived.Test.YtbcfdebdikgijaaGreatDoorS36
set_option maxRecDepth 100000
set_option linter.unusedVariables false
set_option linter.unusedSimpArgs false
set_option maxHeartbeats 8000000
namespace Go.Proofs.YtbcfdebdikgijaaGreatDoor
open Go Go.RowKit
open Go.Maps
theorem BJ {fl : List ZJ} {main : Int} (h : Rl fl main = 0) : XI fl main = true /\ (allT fl).any Vm = false /\ (dedup (allT fl)).length <= 1000 := by
 unfold Rl Rm at h
 by_cases hv : XI fl main = true
 ·rw [ZY hv] at h
  by_cases hq : (dedup (allT fl)).any Vm = true
  ·rw [ZY hq] at h; cases h
  ·rw [Z7 hq] at h
   by_cases hl : 1000 < (dedup (allT fl)).length
   ·rw [ZY hl] at h; cases h
   ·rw [JJ] at hq
    exact ⟨hv, by simpa using hq, by omega⟩
 ·rw [Z7 hv] at h; cases h
theorem rJ {w : World} {q : Nat} {a b c : Value} {t : TypeId} (h : w.heap[q]? = some (.cells #[a, b, c] t (0, 0))) : w.cell? ⟨q, 0, none⟩ = some a /\ w.cell? ⟨q, 1, none⟩ = some b /\ w.cell? ⟨q, 2, none⟩ = some c := by
 simp [World.cell?, h]
theorem xS (hcall : ∀ p, QI p -> ∀ G, Nt p 20000 G) (fv : Value) (main : Int) (fl : List ZJ) (w : World) (hF : Xh w.heap.size w fv fl) (htab : Pv w) (hgB : 0 < w.heap.size) : Calls Tryz.prog 3 #[fv, .int .i64 main] w fun e w' => e = .returned (.bool true) /\ Below w.heap.size w w' := by
 have HF := Z9 hF
 have Jz := Z9 hcall
 have HTAB := Z9 htab
 have hm' : fl.length <= 9223372036854775807 := by have := hF.2.1; unfold maxLen at this; omega
 obtain ⟨⟨fa, fc, rfl, hfc, _⟩, _⟩ := hF
 clear hcall
 go_in
 go_wp2_with fail
 refine (Gm w).mono ?_
 rintro e w2 ⟨rfl, hb2⟩
 have HB2 := Z9 hb2
 have kZ := Z9 (wI w.heap.size _ fl w2 (HF.out.under hb2) hb2.size)
 clear hb2
 go_wp2_with fail
 refine kZ.out.mono ?_
 rintro e w3 ⟨bf, rfl, hb3, hfit⟩
 have HB3 := Z9 (HB2.out.trans (hb3.mono HB2.out.size))
 clear hb3 kZ
 cases bf
 ·go_wp2
  go_ret; exact ⟨rfl, HB3.out⟩
 have K4 := Z9 (hfit rfl)
 clear hfit
 have rC := Z9 (Iq w.heap.size _ fl main w3 (HF.out.under HB3.out) HB3.out.size K4.out)
 go_wp2_with fail
 refine rC.out.mono ?_
 rintro e w4 ⟨rfl, hb4⟩
 have HB4 := Z9 (HB3.out.trans (hb4.mono HB3.out.size))
 clear hb4 rC
 by_cases h0 : Rl fl main = 0
 case neg =>
  have h0b : (Rl fl main != 0) = true := by rw [bne, Zt h0]; rfl
  go_wp2; go_ret; exact ⟨rfl, HB4.out⟩
 obtain ⟨hv, hq, hlen⟩ := BJ h0
 rw [h0]
 have HV := Z9 hv
 have HQ := Z9 hq
 have gG := Z9 hlen
 clear h0 hv hq hlen htab
 have HP := Z9 (FC w.heap.size _ fl main w4 (HF.out.under HB4.out) HB4.out.size K4.out)
 go_wp2_with fail
 refine HP.out.mono ?_
 rintro e w6 ⟨hb6, hcase⟩
 have HB6 := Z9 (HB4.out.trans (hb6.mono HB4.out.size))
 clear hb6 HP
 rcases hcase with ⟨hv, rfl⟩ | ⟨_, hq, rfl⟩ | ⟨_, _, hlen, rfl⟩ | ⟨_, _, _, pv, tv, Zu, rfl, hP, hfl, hfo⟩
 ·exact absurd (hv.symm.trans HV.out) (by decide)
 ·exact absurd (hq.symm.trans HQ.out) (by decide)
 ·have := gG.out; omega
 have hsz : ∀ f ∈ fl, YO f.body <= 600 /\ Y5 f.body <= 211 := fun f hf => ⟨by
  have h1 : YO f.body <= Yv (fl.map ZJ.body) := RS (List.mem_map_of_mem hf); have h2 := K4.out.2.1; unfold Uz at h2; omega, K4.out.2.2 f hf⟩
 have hpv := Cq HV.out hsz HQ.out gG.out hfl hfo
 obtain ⟨hl4, hl0, hm0, hm1, hcm, hfun⟩ := U3 HV.out
 have Fz := Z9 hfun
 have HPV := Z9 hpv
 have P6 := Z9 hfo
 have Kr := Z9 hsz
 have rA := Z9 hfl
 have jE := Z9 hP
 have abL := K4.out.1
 obtain ⟨⟨⟨pa, pc, rfl, hpc, _⟩, _⟩, ⟨ta, tc, rfl, htc, _⟩⟩ := hP
 obtain ⟨ts, hts⟩ : ∃ ts, dedup (allT fl) = ts := ⟨_, rfl⟩
 have rD := Z9 hts
 have hln := gG.out
 simp only [hts, hfl]
 simp only [hts, hfl] at jE hln
 have HRV : Hid (∀ (V : World), Below w6.heap.size w6 V -> Calls Tryz.prog 10 #[.agg #[.slice pa fl.length pc, .slice ta ts.length tc, .int .i64 main]] V fun e w' => e = .returned (.bool true) /\ Below V.heap.size V w') := Z9 fun V hV => (CP _ _ ⟨Zu, ts, main⟩ V (jE.out.below hV) (by show Zu.length <= 1000000; rw [rA.out]; omega) (by show ts.length <= 1000000; omega)).mono (by
  rintro e w' ⟨rfl, hb⟩; have h := HPV.out; rw [rD.out] at h; exact ⟨by rw [h], hb⟩)
 clear hsz hpv hfun hfo hcm htc hpc hm0 hm1 hts
 have hg7 := Z8 w6 (.cells #[.slice pa fl.length pc, .slice ta ts.length tc, .int .i64 main] 29)
 have n7 := ZV w6 (.cells #[.slice pa fl.length pc, .slice ta ts.length tc, .int .i64 main] 29)
 have dW := Z9 (HRV.out _ (ZX hg7 (Nat.le_refl _) (by nofun)))
 have aaR := Z9 (jE.out.below (ZX hg7 (Nat.le_refl _) (by nofun)))
 have HB7 := Z9 (HB6.out.trans (ZX (B := w.heap.size) hg7 HB6.out.size (by nofun)))
 have HN7 := Z9 n7
 clear hg7 n7
 have ow : Hid (Ctx ⟨Zu, ts, main⟩ fl) := Z9 ⟨rA.out, Fz.out, fun i hi => (by have h := P6.out i hi; rw [rD.out] at h; exact h), fun i hi s hs => (by show s ∈ ts; rw [<- rD.out]; exact Ny (Uh (List.mem_map_of_mem (Zr default fl i hi)) hs))⟩
 have eY : Hid (QI ⟨Zu, ts, main⟩) := Z9 (by have h := HPV.out; rw [rD.out] at h; exact pY h)
 obtain ⟨m, hmm⟩ : ∃ m : Nat, main = m := ⟨main.toNat, by have := (U3 HV.out).2.2.1; omega⟩
 subst hmm
 have dV := Z9 (fun (V : World) (hV : Below w.heap.size w V) => rO (fe := 5000) ow.out (by decide) (by decide) (.slice fa fl.length fc) m V (HF.out.under hV) hV.size Kr.out HV.out (HTAB.out.below hV hgB) hgB)
 have bJ := Z9 (rM (fe := 5000) ow.out (by decide) HV.out)
 have FI := Z9 (xU ow.out rfl HV.out)
 have AP := Z9 (fun (V : World) (hV : Below w6.heap.size w6 V) => tC eY.out 20000 (by decide) (by decide) (Jz.out _ eY.out) _ _ V (jE.out.below hV))
 clear ow eY
 generalize Hu fl m 5000 = O at *
 generalize MP ⟨Zu, ts, (m : Int)⟩ 20000 = X at *
 obtain ⟨oo, on, ot, ovl, jX⟩ := O
 obtain ⟨qo, qn, qt, qvl, xR⟩ := X
 go_wp2_with fail
 refine dW.out.mono ?_
 rintro e w8 ⟨rfl, hb8⟩
 have n78 := (hb8.block _ (Z6 HN7.out)).trans HN7.out
 have HB8 := Z9 (HB7.out.trans (hb8.mono HB7.out.size))
 have HK8 : Hid (Below w6.heap.size w6 w8) := Z9 (((Below.refl w6.heap.size w6).alloc (Nat.le_refl _) _).trans (hb8.mono (by simp)))
 have HN8 := Z9 n78
 clear hb8 dW aaR
 go_wp2_with fail
 refine (dV.out w8 HB8.out).mono ?_
 rintro e w9 ⟨y, ov, rfl, hy1, hy2, ⟨B1, hy3⟩, hb9⟩
 obtain ⟨yo, yn, ys, yv, yl⟩ := y
 obtain ⟨ya, yq, rfl, _⟩ := hy2.parts.1
 obtain ⟨oa, oc, rfl⟩ := Yg hy3
 simp only [QC, Z0.op, Z0.n, Z0.s, Z0.lv]
 have HB9 := Z9 (HB8.out.trans (hb9.mono HB8.out.size))
 have HK9 := Z9 (HK8.out.trans (hb9.mono HK8.out.size))
 have HN9 := Z9 ((hb9.block _ (Z6 HN8.out)).trans HN8.out)
 have HY := Z9 (And.intro hy1 (And.intro hy2 hy3))
 have gA := Z8 w9 (.cells #[.int .i64 oo, .int .i64 on, .int .i64 ot, .int .i64 yo, .int .i64 yn, .string ys, .slice none 0 0, .slice ya yl.length yq, .slice oa jX.length oc] 45)
 obtain ⟨p0, p1, p2⟩ := rJ ((gA.block _ (Z6 HN9.out) (by nofun)).trans HN9.out)
 have HG := Z9 gA
 have HO10 := Z9 (Zn w9 (.cells #[.int .i64 oo, .int .i64 on, .int .i64 ot, .int .i64 yo, .int .i64 yn, .string ys, .slice none 0 0, .slice ya yl.length yq, .slice oa jX.length oc] 45))
 have HK10 := Z9 (HK9.out.trans (ZX (B := w6.heap.size) gA HK9.out.size (by nofun)))
 have HB10 := Z9 (HB9.out.trans (ZX (B := w.heap.size) gA HB9.out.size (by nofun)))
 clear hb9 hy1 hy2 hy3 dV gA
 go_wp2_with fail
 refine (AP.out _ HK10.out).mono ?_
 rintro e w11 ⟨z, xv, rfl, hz1, hz2, ⟨B2, hz3⟩, hb11⟩
 obtain ⟨zo, zn, zs, zv, zl⟩ := z
 obtain ⟨za, zc, rfl, _⟩ := hz2.parts.1
 obtain ⟨xa, xc, rfl⟩ := Yg hz3
 simp only [QC, Z0.op, Z0.n, Z0.s, Z0.lv]
 have HB11 := Z9 (HB10.out.trans (hb11.mono HB10.out.size))
 have gX := Z8 w11 (.cells #[.int .i64 qo, .int .i64 qn, .int .i64 qt, .int .i64 zo, .int .i64 zn, .string zs, .slice none 0 0, .slice za zl.length zc, .slice xa xR.length xc] 45)
 have nO := (gX.block _ (Z6 ((hb11.block _ (Z6 HO10.out)).trans HO10.out)) (by nofun)).trans ((hb11.block _ (Z6 HO10.out)).trans HO10.out)
 have nX := Zn w11 (.cells #[.int .i64 qo, .int .i64 qn, .int .i64 qt, .int .i64 zo, .int .i64 zn, .string zs, .slice none 0 0, .slice za zl.length zc, .slice xa xR.length xc] 45)
 have HB12 := Z9 (HB11.out.trans (ZX (B := w.heap.size) gX HB11.out.size (by nofun)))
 have hbY := (ZX HG.out (B := w9.heap.size) (Nat.le_refl _) (by nofun)).trans (hb11.mono (by have := HG.out.size; exact this)) |>.trans (ZX gX (B := w9.heap.size) (by have := hb11.size; have := HG.out.size; omega) (by nofun))
 have jY := ZX gX (B := w11.heap.size) (Nat.le_refl _) (by nofun)
 have hYY := HY.out.2.1.Ey (Sj hbY)
 have hYO := Xn (Pt HY.out.2.2 (Sj hbY))
 have hZZ := hz2.Ey (Sj jY)
 have hZO := Xn (Pt hz3 (Sj jY))
 have aW := Z9 (And.intro hYY (And.intro hYO (And.intro hZZ hZO)))
 have HZ1 := Z9 hz1
 have o0 := (Zk _ _ 0 _ _ _ nO).trans (show _ = some (Value.int .i64 oo) from rfl)
 have o1 := (Zk _ _ 1 _ _ _ nO).trans (show _ = some (Value.int .i64 on) from rfl)
 have o2 := (Zk _ _ 2 _ _ _ nO).trans (show _ = some (Value.int .i64 ot) from rfl)
 have o3 := (Zk _ _ 3 _ _ _ nO).trans (show _ = some (Value.int .i64 yo) from rfl)
 have o4 := (Zk _ _ 4 _ _ _ nO).trans (show _ = some (Value.int .i64 yn) from rfl)
 have o5 := (Zk _ _ 5 _ _ _ nO).trans (show _ = some (Value.string ys) from rfl)
 have o6 := (Zk _ _ 6 _ _ _ nO).trans (show _ = some (Value.slice none 0 0) from rfl)
 have o7 := (Zk _ _ 7 _ _ _ nO).trans (show _ = some (Value.slice ya yl.length yq) from rfl)
 have o8 := (Zk _ _ 8 _ _ _ nO).trans (show _ = some (Value.slice oa jX.length oc) from rfl)
 have x0 := (Zk _ _ 0 _ _ _ nX).trans (show _ = some (Value.int .i64 qo) from rfl)
 have x1 := (Zk _ _ 1 _ _ _ nX).trans (show _ = some (Value.int .i64 qn) from rfl)
 have x2 := (Zk _ _ 2 _ _ _ nX).trans (show _ = some (Value.int .i64 qt) from rfl)
 have x3' := (Zk _ _ 3 _ _ _ nX).trans (show _ = some (Value.int .i64 zo) from rfl)
 have x4 := (Zk _ _ 4 _ _ _ nX).trans (show _ = some (Value.int .i64 zn) from rfl)
 have x5 := (Zk _ _ 5 _ _ _ nX).trans (show _ = some (Value.string zs) from rfl)
 have x6 := (Zk _ _ 6 _ _ _ nX).trans (show _ = some (Value.slice none 0 0) from rfl)
 have x7 := (Zk _ _ 7 _ _ _ nX).trans (show _ = some (Value.slice za zl.length zc) from rfl)
 have x8 := (Zk _ _ 8 _ _ _ nX).trans (show _ = some (Value.slice xa xR.length xc) from rfl)
 clear hz1 hz2 hz3 hb11 AP gX hbY jY hYY hYO hZZ hZO p0 p1 p2
 by_cases h3 : oo = 3
 ·have h3b : (oo == 3) = true := by rw [h3]; rfl
  go_wp2; exact ⟨rfl, _, results_tmp rfl _ _ _, rfl, HB12.out⟩
 have h3b : (oo == 3) = false := Zt h3
 by_cases q3 : qo = 3
 ·subst q3
  have x3b : ((3 : Int) == 3) = true := rfl; clear o1 o2 o3 o4 o5 o6 o7 o8 x1 x2 x4 x5 x6 x7 x8; go_wp2; exact ⟨rfl, _, results_tmp rfl _ _ _, rfl, HB12.out⟩
 have x3b : (qo == 3) = false := Zt q3
 have HS := Z9 ((FI.out.resolve_left h3).resolve_left q3)
 have hX := HS.out
 clear HS FI
 obtain ⟨rfl, rfl, _, rfl, rfl⟩ := Ke.mk.inj hX
 have HSE := Z9 (Eh qt ⟨qo, qn, ot, qvl, xR⟩ (.mk yo yn ys (.slice ya yl.length yq) yl) (.mk zo zn zs (.slice za zl.length zc) zl) (.slice oa xR.length oc) (.slice xa xR.length xc) _ aW.out.1 aW.out.2.2.1 HY.out.1 HZ1.out aW.out.2.1 aW.out.2.2.2 bJ.out)
 go_wp2_with fail
 refine HSE.out.mono ?_
 rintro e w13 ⟨rfl, hb13⟩
 go_wp2
 go_ret
 exact ⟨rfl, HB12.out.trans (hb13.mono HB12.out.size)⟩
end Go.Proofs.YtbcfdebdikgijaaGreatDoor
