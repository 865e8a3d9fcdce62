/- normal.Equal of constructors with the same normal form; the law's tame. Printed by gen_nequal.py, expanded by mac.py. -/
import Derived.Test.YtkiffgdinmpljaaGreatDoorF35
import Derived.Test.YtkiffgdinmpljaaGreatDoorF49
set_option linter.unusedVariables false
set_option linter.unusedSimpArgs false
namespace Go.Proofs.YtkiffgdinmpljaaGreatDoor
open Go Go.RowKit
set_option maxHeartbeats 8000000
set_option maxRecDepth 100000
theorem nequal_any (d1 d2 : ConD) (w : World) (hE : EnvN w) (h1 : IsCon (fun _ => True) w d1) (h2 : IsCon (fun _ => True) w d2) (hv1 : valC (pC d1) = true) (hv2 : valC (pC d2) = true) (hb1 : bndC (pC d1)) (hb2 : bndC (pC d2)) (y0 : Cn) (m1 m2 : Nat) (ht1 : tameN (pC d1) = some (y0, m1)) (ht2 : tameN (pC d2) = some (y0, m2)) :
 Calls Tryz.prog 19 #[conV d1, conV d2] w fun e w' => e = .returned (.tuple #[.bool true, .int .i64 0])/\Below w.heap.size w w' := by
 have hz1 := (val_iff.1 hv1).1
 have hz2 := (val_iff.1 hv2).1
 obtain ⟨xop, xn, xs, xk, xns, xl, xka, xkn, xkc, xna, xnc, xa, xcc, rfl, hxk, _⟩ := cSQ h1
 obtain ⟨yop, yn, ys, yk, yns, yl, yka, ykn, ykc, yna, ync, ya, ycc, rfl, hyk, _⟩ := cSQ h2
 have HXV := hJQ (cVQ (op := xop) (n := xn) (s := xs) (nv := .slice xna xns.length xnc) (lv := .slice xa xl.length xcc) (ns := xns) (l := xl) hxk)
 have HYV := hJQ (cVQ (op := yop) (n := yn) (s := ys) (nv := .slice yna yns.length ync) (lv := .slice ya yl.length ycc) (ns := yns) (l := yl) hyk)
 rw [HXV.out, HYV.out]
 have g1 := gAQ (w.alloc (.cells #[.int .i64 xop, .int .i64 xn, .string xs, .slice xka xkn xkc, .slice xna xns.length xnc, .slice xa xl.length xcc] 28)) (.cells #[.int .i64 yop, .int .i64 yn, .string ys, .slice yka ykn ykc, .slice yna yns.length ync, .slice ya yl.length ycc] 28)
 have s1 : (w.alloc (.cells #[.int .i64 xop, .int .i64 xn, .string xs, .slice xka xkn xkc, .slice xna xns.length xnc, .slice xa xl.length xcc] 28)).heap.size = w.heap.size + 1 := by simp
 have k1 := (g1.block w.heap.size (by omega) (by nofun)).trans (nHQ w (.cells #[.int .i64 xop, .int .i64 xn, .string xs, .slice xka xkn xkc, .slice xna xns.length xnc, .slice xa xl.length xcc] 28))
 have k2 : ((w.alloc (.cells #[.int .i64 xop, .int .i64 xn, .string xs, .slice xka xkn xkc, .slice xna xns.length xnc, .slice xa xl.length xcc] 28)).alloc (.cells #[.int .i64 yop, .int .i64 yn, .string ys, .slice yka ykn ykc, .slice yna yns.length ync, .slice ya yl.length ycc] 28)).heap[w.heap.size + 1]? = _ := (congrArg _ s1.symm).trans (nHQ (w.alloc (.cells #[.int .i64 xop, .int .i64 xn, .string xs, .slice xka xkn xkc, .slice xna xns.length xnc, .slice xa xl.length xcc] 28)) (.cells #[.int .i64 yop, .int .i64 yn, .string ys, .slice yka ykn ykc, .slice yna yns.length ync, .slice ya yl.length ycc] 28))
 have hbW := gUQ (B := w.heap.size) (gBQ (gAQ w (.cells #[.int .i64 xop, .int .i64 xn, .string xs, .slice xka xkn xkc, .slice xna xns.length xnc, .slice xa xl.length xcc] 28)) g1) (Nat.le_refl _) (by nofun)
 have HV1 : Hid (∀ U, Below w.heap.size w U->Calls Tryz.prog 25 #[.agg #[.int .i64 xop, .int .i64 xn, .string xs, .slice xka xkn xkc, .slice xna xns.length xnc, .slice xa xl.length xcc]] U fun e w' => e = .returned (.bool true)/\Below U.heap.size U w') := fun U hU => by
  have := valid_any (fun _ => True) (ConD.mk xop xn xs xk (.slice xna xns.length xnc) xns (.slice xa xl.length xcc) xl) U (hE.below hU) (iBQ h1 hU) hb1 (by omega)
  rw [HXV.out, hv1] at this
  exact this
 have HV2 : Hid (∀ U, Below w.heap.size w U->Calls Tryz.prog 25 #[.agg #[.int .i64 yop, .int .i64 yn, .string ys, .slice yka ykn ykc, .slice yna yns.length ync, .slice ya yl.length ycc]] U fun e w' => e = .returned (.bool true)/\Below U.heap.size U w') := fun U hU => by
  have := valid_any (fun _ => True) (ConD.mk yop yn ys yk (.slice yna yns.length ync) yns (.slice ya yl.length ycc) yl) U (hE.below hU) (iBQ h2 hU) hb2 (by omega)
  rw [HYV.out, hv2] at this
  exact this
 have HT1 : Hid (∀ U, Below w.heap.size w U->Calls Tryz.prog 26 #[.agg #[.int .i64 xop, .int .i64 xn, .string xs, .slice xka xkn xkc, .slice xna xns.length xnc, .slice xa xl.length xcc]] U (TameOk (fun _ => True) (some (y0, m1)) U)) := fun U hU => by
  have := tame_any (fun _ => True) (ConD.mk xop xn xs xk (.slice xna xns.length xnc) xns (.slice xa xl.length xcc) xl) U (hE.below hU) (fun _ _ => trivial) (iBQ h1 hU) hv1 hb1
  rw [HXV.out, ht1] at this
  exact this
 have HT2 : Hid (∀ U, Below w.heap.size w U->Calls Tryz.prog 26 #[.agg #[.int .i64 yop, .int .i64 yn, .string ys, .slice yka ykn ykc, .slice yna yns.length ync, .slice ya yl.length ycc]] U (TameOk (fun _ => True) (some (y0, m2)) U)) := fun U hU => by
  have := tame_any (fun _ => True) (ConD.mk yop yn ys yk (.slice yna yns.length ync) yns (.slice ya yl.length ycc) yl) U (hE.below hU) (fun _ _ => trivial) (iBQ h2 hU) hv2 hb2
  rw [HYV.out, ht2] at this
  exact this
 obtain ⟨c0, c1, c2, c3, c4, c5⟩ := cnQ k1
 have HK1 := hJQ k1
 have HK2 := hJQ k2
 clear h1 h2 hv1 hv2 hb1 hb2 ht1 ht2 hz1 hz2 hE g1 s1 k1 k2 hxk hyk
 go_enter Tryz.func19, Tryz.ntmps19
 go_upto_region 1 with fail
 generalize ((w.alloc (.cells #[.int .i64 xop, .int .i64 xn, .string xs, .slice xka xkn xkc, .slice xna xns.length xnc, .slice xa xl.length xcc] 28)).alloc (.cells #[.int .i64 yop, .int .i64 yn, .string ys, .slice yka ykn ykc, .slice yna yns.length ync, .slice ya yl.length ycc] 28)) = W at *
 go_wp2_with fail
 refine (HV1.out _ hbW).mono ?_
 rintro e w2 ⟨rfl, hb2⟩
 have hbw := hbW.trans (hb2.mono hbW.size)
 have k1 := (hb2.block _ (hLQ HK1.out)).trans HK1.out
 have k2 := (hb2.block _ (hLQ HK2.out)).trans HK2.out
 have HK1 := hJQ k1
 have HK2 := hJQ k2
 clear c0 c1 c2 c3 c4 c5 HV1 hb2 k1
 obtain ⟨d0, d1, d2, d3, d4, d5⟩ := cnQ k2
 clear k2
 go_wp2_with fail
 clear d0 d1 d2 d3 d4 d5
 refine (HV2.out _ hbw).mono ?_
 rintro e w3 ⟨rfl, hb3⟩
 have hbw := hbw.trans (hb3.mono hbw.size)
 have k1 := (hb3.block _ (hLQ HK1.out)).trans HK1.out
 have k2 := (hb3.block _ (hLQ HK2.out)).trans HK2.out
 have HK2 := hJQ k2
 obtain ⟨c0, c1, c2, c3, c4, c5⟩ := cnQ k1
 clear HV2 hb3 k1 k2 HK1
 go_wp2_with fail
 clear c0 c1 c2 c3 c4 c5
 refine (HT1.out _ hbw).mono ?_
 rintro e w4 ⟨dz, bz, rfl, hdz, hb4, _, _, hyes⟩
 obtain ⟨rfl, hpz⟩ := hyes _ _ rfl
 obtain ⟨zop, zn, zs, zk, zns, zl, zka, zkn, zkc, zna, znc, za, zcc, rfl, hzk, _⟩ := cSQ hdz
 have HZV := hJQ (cVQ (op := zop) (n := zn) (s := zs) (nv := .slice zna zns.length znc) (lv := .slice za zl.length zcc) (ns := zns) (l := zl) hzk)
 rw [HZV.out]
 have g1 := gAQ w4 (.cells #[.int .i64 zop, .int .i64 zn, .string zs, .slice zka zkn zkc, .slice zna zns.length znc, .slice za zl.length zcc] 28)
 have hbX := hb4.trans (gUQ (B := w3.heap.size) g1 hb4.size (by nofun))
 have hbw := hbw.trans (hbX.mono hbw.size)
 have k2 := (hbX.block _ (hLQ HK2.out)).trans HK2.out
 have kz := nHQ w4 (.cells #[.int .i64 zop, .int .i64 zn, .string zs, .slice zka zkn zkc, .slice zna zns.length znc, .slice za zl.length zcc] 28)
 have HKZ := hJQ kz
 have HIZ := hJQ (hdz.grown g1 (by nofun))
 have HPZ := hJQ hpz
 clear g1 hbX hdz hpz hyes hzk hb4 HT1 HK2 kz
 go_upto_region 4 with fail
 generalize w4.alloc (.cells #[.int .i64 zop, .int .i64 zn, .string zs, .slice zka zkn zkc, .slice zna zns.length znc, .slice za zl.length zcc] 28) = V4 at *
 obtain ⟨d0, d1, d2, d3, d4, d5⟩ := cnQ k2
 clear k2
 go_wp2_with fail
 clear d0 d1 d2 d3 d4 d5
 refine (HT2.out _ hbw).mono ?_
 rintro e w5 ⟨dq, bq, rfl, hdq, hb5, _, _, hyes⟩
 obtain ⟨rfl, hpq⟩ := hyes _ _ rfl
 obtain ⟨qop, qn, qs, qk, qns, ql, qka, qkn, qkc, qna, qnc, qa, qcc, rfl, hqk, _⟩ := cSQ hdq
 have HQV := hJQ (cVQ (op := qop) (n := qn) (s := qs) (nv := .slice qna qns.length qnc) (lv := .slice qa ql.length qcc) (ns := qns) (l := ql) hqk)
 rw [HQV.out]
 have g1 := gAQ w5 (.cells #[.int .i64 qop, .int .i64 qn, .string qs, .slice qka qkn qkc, .slice qna qns.length qnc, .slice qa ql.length qcc] 28)
 have hbX := hb5.trans (gUQ (B := V4.heap.size) g1 hb5.size (by nofun))
 have hbw := hbw.trans (hbX.mono hbw.size)
 have kz := (hbX.block _ (hLQ HKZ.out)).trans HKZ.out
 have kq := nHQ w5 (.cells #[.int .i64 qop, .int .i64 qn, .string qs, .slice qka qkn qkc, .slice qna qns.length qnc, .slice qa ql.length qcc] 28)
 have HEq := tequal_any (ConD.mk zop zn zs zk (.slice zna zns.length znc) zns (.slice za zl.length zcc) zl) (ConD.mk qop qn qs qk (.slice qna qns.length qnc) qns (.slice qa ql.length qcc) ql) _ (iBQ HIZ.out hbX) (hdq.grown g1 (by nofun)) (by rw [HPZ.out, hpq])
 rw [HZV.out, HQV.out] at HEq
 have HEq := hJQ HEq
 clear g1 hbX hdq hpq hyes hqk hb5 HT2 HKZ HIZ HPZ
 go_upto_region 5 with fail
 generalize w5.alloc (.cells #[.int .i64 qop, .int .i64 qn, .string qs, .slice qka qkn qkc, .slice qna qns.length qnc, .slice qa ql.length qcc] 28) = V5 at *
 obtain ⟨c0, c1, c2, c3, c4, c5⟩ := cnQ kz
 obtain ⟨d0, d1, d2, d3, d4, d5⟩ := cnQ kq
 clear kz kq
 go_wp2_with fail
 clear c0 c1 c2 c3 c4 c5 d0 d1 d2 d3 d4 d5
 refine HEq.out.mono ?_
 rintro e w6 ⟨rfl, hb6⟩
 have hbz := hbw.trans (hb6.mono hbw.size)
 clear HEq
 go_wp2_with fail
 go_ret2
 exact ⟨rfl, hbz⟩
theorem tame1_any (x : ConD) (w : World) (h : IsCon (fun _ => True) w x) (hb : bndC (pC x)) :
 Calls Tryz.prog 41 (#[conV x] ++ #[]) w fun e w' => ∃ b : Bool, e = .returned (.bool b)/\Below w.heap.size w w'/\(b = false->valC (pC x) = true/\∃ y m, tameN (pC x) = some (y, m)) := by
 obtain ⟨op, n, s, k, nv, ns, lv, l⟩ := x
 obtain ⟨ka, kc, kn, hks⟩ := iKQ h.parts.kind
 obtain ⟨na, nc, rfl, _⟩ := rSQ h.parts.names
 obtain ⟨a, c, rfl, _⟩ := rSQ h.parts.row
 rw [cVQ hks]
 have hll : l.length<=9223372036854775807 := by have h1 := h.parts.llen; have : maxLen = 9223372036854775807 := (by decide); omega
 have hnn : ns.length<=9223372036854775807 := by have h1 := h.parts.nlen; have : maxLen = 9223372036854775807 := (by decide); omega
 have hb0 : Below w.heap.size w (w.alloc (.cells #[.int .i64 op, .int .i64 n, .string s, .slice ka kn kc, .slice na ns.length nc, .slice a l.length c] 28)) := (Below.refl _ _).alloc (Nat.le_refl _) _
 have gC := nHQ w (.cells #[.int .i64 op, .int .i64 n, .string s, .slice ka kn kc, .slice na ns.length nc, .slice a l.length c] 28)
 have hsz0 : (w.alloc (.cells #[.int .i64 op, .int .i64 n, .string s, .slice ka kn kc, .slice na ns.length nc, .slice a l.length c] 28)).heap.size = w.heap.size + 1 := by simp
 obtain ⟨c0, c1, c2, c3, c4, c5⟩ := cnQ gC
 have HP := hJQ (iBQ h hb0).parts
 have HC0 := hJQ (iBQ h hb0)
 have HT := rtame_any (fun _ => True) _ _ (fun _ _ => trivial) HC0.out hb
 rw [cVQ hks] at HT
 have HT := hJQ HT
 clear h hks HP HC0 hb
 generalize pC (.mk op n s k (.slice na ns.length nc) ns (.slice a l.length c) l) = px at *
 go_enter Tryz.func41, Tryz.ntmps41
 go_wp2_with fail
 refine HT.out.mono ?_
 rintro e w2 ⟨d, b, rfl, hd, hb2, t1, t2, t3⟩
 obtain ⟨zop, zn, zs, zk, zns, zl, zka, zkn, zkc, zna, znc, za, zcc, rfl, hzk, _⟩ := cSQ hd
 rw [cVQ (op := zop) (n := zn) (s := zs) (nv := .slice zna zns.length znc) (lv := .slice za zl.length zcc) (ns := zns) (l := zl) hzk]
 have hbw := hb0.trans (hb2.mono hb0.size)
 have hbz := hbw.trans (gUQ (B := w.heap.size) (gAQ w2 (.cells #[.int .i64 zop, .int .i64 zn, .string zs, .slice zka zkn zkc, .slice zna zns.length znc, .slice za zl.length zcc] 28)) hbw.size (by nofun))
 have HR : Hid (∃ b' : Bool, b' = (!b)/\(b' = false->valC px = true/\∃ y m, tameN px = some (y, m))) := by
  refine ⟨!b, rfl, fun hf => ?_⟩
  have hb1 : b = true := by simpa using hf
  have hv : valC px = true := by cases hq : valC px with
   | true => rfl
   | false => rw [t1 hq] at hb1; cases hb1
  refine ⟨hv, ?_⟩
  cases ht : tameN px with
  | none => rw [t2 hv ht] at hb1; cases hb1
  | some q => exact ⟨q.1, q.2, rfl⟩
 clear HT t1 t2 t3 hd hzk hb2 hbw
 go_wp2_with fail
 go_ret
 obtain ⟨b', hb', h⟩ := HR.out
 exact ⟨b', by rw [hb']; rfl, hbz, h⟩
theorem ltame_any (x : ConD) (v : Value) (w : World) (hr : RowP (fun _ => True) w v [x].length (cCQ [x])) (h : IsCon (fun _ => True) w x) :
 Calls Tryz.prog 18 #[v] w fun e w' => ∃ b : Bool, e = .returned (.bool b)/\Below w.heap.size w w'/\(b = true->sizeC (pC x)<=60/\bndC (pC x)/\valC (pC x) = true/\∃ y m, tameN (pC x) = some (y, m)) := by
 have HF := hJQ (fits_any (fun _ => True) x v w hr h)
 have HX := hJQ h
 have HR := hJQ hr
 obtain ⟨a, c, rfl, _⟩ := rSQ hr
 clear hr h
 go_enter Tryz.func18, Tryz.ntmps18
 go_wp2_with fail
 refine HF.out.mono ?_
 rintro e w2 ⟨b, rfl, hb2, hbd⟩
 have HBD := hJQ hbd
 clear HF hbd
 cases b
 ·go_wp2_with fail
  go_ret
  exact ⟨false, rfl, hb2, by nofun⟩
 ·obtain ⟨hsz, hbn⟩ : sizeC (pC x)<=60/\bndC (pC x) := HBD.out (by first | rfl | trivial)
  have HC := containsC_any 41 #[] (enters_of Tryz.func41 (by kernel_rfl) rfl) (fun _ => True) (.slice a [x].length c) [x] (fun j V => Below w2.heap.size w2 V/\(0 < j->valC (pC x) = true/\∃ y m, tameN (pC x) = some (y, m))) (fun _ V => Below w2.heap.size w2 V) w2 ⟨Below.refl _ _, fun h => absurd h (Nat.lt_irrefl 0)⟩ (fun j V hI => Kept.of_below hI.1) (fun j V hj hI => by
   have hj0 : j = 0 := by have hj : j < 1 := hj; omega
   subst hj0
   refine (tame1_any x V (iBQ (iBQ HX.out hb2) hI.1) hbn).mono ?_
   rintro e V' ⟨b, rfl, j1, j2⟩
   have hbl := hI.1.trans (j1.mono hI.1.size)
   exact ⟨b, rfl, fun _ => hbl, fun hb => ⟨hbl, fun _ => j2 hb⟩⟩) (rowP_below HR.out hb2) (by simp) (fun y hy => by rw [List.mem_singleton.1 hy]; exact iBQ HX.out hb2)
  have HC := hJQ HC
  have HS := hJQ hsz
  have HBN := hJQ hbn
  clear hsz hbn HX HR HBD
  go_wp2_with fail
  refine HC.out.mono ?_
  rintro e U ⟨b, rfl, hy, hno⟩
  have HRr : Hid (∃ b' : Bool, b' = (!b)/\Below w.heap.size w U/\(b' = true->sizeC (pC x)<=60/\bndC (pC x)/\valC (pC x) = true/\∃ y m, tameN (pC x) = some (y, m))) := by
   cases b with
   | true =>
     obtain ⟨_, _, h2⟩ := hy rfl
     exact ⟨false, rfl, hb2.trans (h2.mono hb2.size), by nofun⟩
   | false =>
     obtain ⟨h1, h3⟩ := hno rfl
     exact ⟨true, rfl, hb2.trans (h1.mono hb2.size), fun _ => ⟨HS.out, HBN.out, h3 (by simp)⟩⟩
  clear HC hy hno
  go_wp2_with fail
  go_ret
  obtain ⟨b', hb', h⟩ := HRr.out
  exact ⟨b', by rw [hb']; rfl, h⟩
end Go.Proofs.YtkiffgdinmpljaaGreatDoor
