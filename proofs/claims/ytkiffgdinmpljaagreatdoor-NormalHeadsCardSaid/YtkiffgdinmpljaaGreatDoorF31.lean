/- The reference's normalize. Printed by gen_rnorm.py, expanded by mac.py. -/
import Derived.Test.YtkiffgdinmpljaaGreatDoorF30
import Derived.Test.YtkiffgdinmpljaaGreatDoorF21
set_option linter.unusedVariables false
set_option linter.unusedSimpArgs false
namespace Go.Proofs.YtkiffgdinmpljaaGreatDoor
open Go Go.RowKit
set_option maxHeartbeats 8000000
set_option maxRecDepth 100000
def RNOk (P : Nat->Prop) (res : Option (Cn × Nat)) (w : World) (e : Ending) (w' : World) : Prop :=
 ∃ (d : ConD) (r : Int), e = .returned (.tuple #[conV d, .int .i64 r])/\IsCon P w' d/\Below w.heap.size w w'/\(res = none->r = -1)/\(∀ y m, res = some (y, m)->pC d = y/\r = (m : Int))
def RNormAll (F : Nat) (x : ConD) : Prop := ∀ (P : Nat->Prop) (w : World) (left : Nat), (∀ b, w.heap.size<=b->P b)->IsCon P w x->frmC (pC x) = true->bndC (pC x)->left<=10000->left * 401 + dCQ (pC x)<=F->dCQ (pC x)<=400->sizeC (pC x)<=20000 →
 Calls Tryz.prog 30 #[conV x, .int .i64 left] w (RNOk P (nrmN F (pC x) left) w)
theorem normL_pre (f : Cn->Nat->Option (Cn × Nat)) : ∀ (l : List Cn) (k left : Nat), normL f (l.take k) left = none->normL f l left = none
 | [], k, left, h => by rw [List.take_nil] at h; exact h
 | x :: r, 0, left, h => by rw [List.take_zero, normL] at h; cases h
 | x :: r, k + 1, left, h => by
   rw [List.take_succ_cons, normL] at h
   rw [normL]
   cases hx : f x left with
   | none => rfl
   | some p =>
     obtain ⟨y, m⟩ := p
     rw [hx] at h
     simp only at h ⊢
     cases hr : normL f (r.take k) m with
     | none => rw [normL_pre f r k m hr]; rfl
     | some q => rw [hr] at h; cases h
theorem one_row {P : Nat->Prop} {U : World} {b9 : Nat} {x0 x1 x2 x3 x4 x5 : Value} {t : TypeId} (hp : P b9) (h : U.heap[b9]? = some (.cells #[x0, x1, x2, x3, x4, x5] t (0, 0))) : RowP P U (.slice (some ⟨b9, 0, none⟩) 1 1) 1 [x0, x1, x2, x3, x4, x5] := by
 refine ⟨_, _, rfl, Nat.le_refl _, fun _ => ⟨b9, 0, rfl, hp, hLQ h, fun j hj => ?_⟩⟩
 obtain ⟨h0, h1, h2, h3, h4, h5⟩ := cnQ h
 have hj : j < 6 := hj
 rw [Nat.zero_add]
 obtain rfl | rfl | rfl | rfl | rfl | rfl : j = 0 ∨ j = 1 ∨ j = 2 ∨ j = 3 ∨ j = 4 ∨ j = 5 := by omega
 ·exact h0
 ·exact h1
 ·exact h2
 ·exact h3
 ·exact h4
 ·exact h5
theorem rnorm_step (F : Nat) (IHF : ∀ x, RNormAll F x) (x : ConD) : RNormAll (F + 1) x := by
 intro P w left hP h hf hbd hl1 hfu hdp hsz
 obtain ⟨op, n, s, k, nv, ns, lv, l⟩ := x
 rw [pMQ] at hf hbd hfu hdp hsz ⊢
 have hfs := fSQ hf
 have hlp := frm_parts hf
 have hbs := ((bndC_mk ..).1 hbd).2.2.2
 have hfr0 := hJQ hf
 have hbd0 := hJQ hbd
 rw [depthC_mk] at hfu hdp
 rw [sMQ] at hsz
 have h0 := h.lt
 rw [List.length_map] at hlp
 obtain ⟨ka, kc, kn, na, nc, a, c, rfl, _, rfl, _, hks, hcv, hll, hnn, hb0, gC, hsz0, HP, HC0, c0, c1, c2, c3, c4, c5⟩ := open_box h
 rw [hcv]
 clear hcv
 have hg1 := gAQ (w.alloc (.cells #[.int .i64 op, .int .i64 n, .string s, .slice ka kn kc, .slice na ns.length nc, .slice a l.length c] 28)) (.cells #[.int .i64 0, .int .i64 0, .string ⟨#[]⟩, .slice none 0 0, .slice none 0 0, .slice none 0 0] 28)
 have s1 : ((w.alloc (.cells #[.int .i64 op, .int .i64 n, .string s, .slice ka kn kc, .slice na ns.length nc, .slice a l.length c] 28)).alloc (.cells #[.int .i64 0, .int .i64 0, .string ⟨#[]⟩, .slice none 0 0, .slice none 0 0, .slice none 0 0] 28)).heap.size = w.heap.size + 2 := by simp
 have kR0 : ((w.alloc (.cells #[.int .i64 op, .int .i64 n, .string s, .slice ka kn kc, .slice na ns.length nc, .slice a l.length c] 28)).alloc (.cells #[.int .i64 0, .int .i64 0, .string ⟨#[]⟩, .slice none 0 0, .slice none 0 0, .slice none 0 0] 28)).heap[w.heap.size + 1]? = _ := (congrArg _ hsz0.symm).trans (nHQ (w.alloc (.cells #[.int .i64 op, .int .i64 n, .string s, .slice ka kn kc, .slice na ns.length nc, .slice a l.length c] 28)) (.cells #[.int .i64 0, .int .i64 0, .string ⟨#[]⟩, .slice none 0 0, .slice none 0 0, .slice none 0 0] 28))
 have kB0 := (hg1.block w.heap.size (by omega) (by nofun)).trans gC
 have hbW := gUQ (B := w.heap.size) (gBQ (gAQ w (.cells #[.int .i64 op, .int .i64 n, .string s, .slice ka kn kc, .slice na ns.length nc, .slice a l.length c] 28)) hg1) (nLQ _) (by nofun)
 have HKS := hJQ hks
 have HX := hJQ h
 have HX0 := hJQ h0
 have HFS := hJQ hfs
 have HBS := hJQ hbs
 have HPP := hJQ hP
 clear c0 c1 c2 c3 c4 c5 hb0 gC HP HC0 hsz0 hf hfs hks h h0 hg1 hbd hbs hP
 go_enter Tryz.func30, Tryz.ntmps30
 go_upto_region 1 with fail
 generalize ((w.alloc (.cells #[.int .i64 op, .int .i64 n, .string s, .slice ka kn kc, .slice na ns.length nc, .slice a l.length c] 28)).alloc (.cells #[.int .i64 0, .int .i64 0, .string ⟨#[]⟩, .slice none 0 0, .slice none 0 0, .slice none 0 0] 28)) = W at *
 obtain ⟨c0, c1, c2, c3, c4, c5⟩ := cnQ kB0
 have hga := gAQ W (.cells #[.int .i64 0, .int .i64 0, .string ⟨#[]⟩, .slice none 0 0, .slice none 0 0, .slice none 0 0] 28)
 have kZ : (W.alloc (.cells #[.int .i64 0, .int .i64 0, .string ⟨#[]⟩, .slice none 0 0, .slice none 0 0, .slice none 0 0] 28)).heap[w.heap.size + 2]? = some (.cells #[.int .i64 0, .int .i64 0, .string ⟨#[]⟩, .slice none 0 0, .slice none 0 0, .slice none 0 0] 28) := by rw [← s1]; exact nHQ W (.cells #[.int .i64 0, .int .i64 0, .string ⟨#[]⟩, .slice none 0 0, .slice none 0 0, .slice none 0 0] 28)
 have hrw := gRQ (W.alloc (.cells #[.int .i64 0, .int .i64 0, .string ⟨#[]⟩, .slice none 0 0, .slice none 0 0, .slice none 0 0] 28)) (w.heap.size + 2) #[.int .i64 op, .int .i64 n, .string s, .slice ka kn kc, .slice na ns.length nc, .slice none 0 0]
 have k9 := setRow_heap (W.alloc (.cells #[.int .i64 0, .int .i64 0, .string ⟨#[]⟩, .slice none 0 0, .slice none 0 0, .slice none 0 0] 28)) (w.heap.size + 2) _ #[.int .i64 op, .int .i64 n, .string s, .slice ka kn kc, .slice na ns.length nc, .slice none 0 0] _ _ kZ
 have sA : (W.alloc (.cells #[.int .i64 0, .int .i64 0, .string ⟨#[]⟩, .slice none 0 0, .slice none 0 0, .slice none 0 0] 28)).heap.size = w.heap.size + 3 := by simp; omega
 have s9 : ((W.alloc (.cells #[.int .i64 0, .int .i64 0, .string ⟨#[]⟩, .slice none 0 0, .slice none 0 0, .slice none 0 0] 28)).setRow (w.heap.size + 2) #[.int .i64 op, .int .i64 n, .string s, .slice ka kn kc, .slice na ns.length nc, .slice none 0 0]).heap.size = w.heap.size + 3 := by rw [size_setRow]; exact sA
 have kB9 := (hrw.block w.heap.size (by omega) (fun e => by have e2 : w.heap.size = (w.heap.size + 2) := oJQ e; omega)).trans ((hga.block w.heap.size (by omega) (by nofun)).trans kB0)
 have kR9 := (hrw.block (w.heap.size + 1) (by omega) (fun e => by have e2 : (w.heap.size + 1) = (w.heap.size + 2) := oJQ e; omega)).trans ((hga.block (w.heap.size + 1) (by omega) (by nofun)).trans kR0)
 have hb9 := (hbW.trans (gUQ (B := w.heap.size) hga (by omega) (by nofun))).trans (gUQ (B := w.heap.size) hrw (by omega) (fun q hq => by have e2 : (w.heap.size + 2) = q := oJQ hq; omega))
 have HK9 := hJQ k9
 have HB9 := hJQ kB9
 have HR9 := hJQ kR9
 clear hrw hga k9 kB9 kR9 kB0 kR0
 go_upto_region 2 with (refine wpList_store_row rfl 28 _ _ rfl (w.heap.size + 2) _ rfl rfl 28 _ kZ cIQ rfl (all_one _ rfl) ?_)
 clear c0 c1 c2 c3 c4 c5 kZ sA hbW s1
 generalize (W.alloc (.cells #[.int .i64 0, .int .i64 0, .string ⟨#[]⟩, .slice none 0 0, .slice none 0 0, .slice none 0 0] 28)).setRow (w.heap.size + 2) #[.int .i64 op, .int .i64 n, .string s, .slice ka kn kc, .slice na ns.length nc, .slice none 0 0] = W3 at *
 clear W
 have HM0 : Hid (MkC (fun b => P b/\b ≠ w.heap.size + 1) W3 W3.heap.size (w.heap.size + 2) (.int .i64 op) (.int .i64 n) (.string s) (.slice ka kn kc) (.slice na ns.length nc) (.slice none 0 0) []) := MkC.nil HK9.out (by omega) (nLQ _)
 clear HK9
 go_wp2_with fail
 go_loopw [1, 7] (fun lf i wr => ∃ (cv : Value) (ds : List ConD) (m : Nat), ds.length<=l.length/\lf = .int .i64 m/\i = .int .i64 ds.length/\m<=left/\Hid (MkC (fun b => P b/\b ≠ w.heap.size + 1) wr W3.heap.size (w.heap.size + 2) (.int .i64 op) (.int .i64 n) (.string s) (.slice ka kn kc) (.slice na ns.length nc) cv ds)/\Hid (normL (nrmN F) ((l.map pC).take ds.length) left = some (ds.map pC, m))/\Hid (Kept (fun b => b < W3.heap.size/\b ≠ (w.heap.size + 2)) W3 wr)/\Hid (Below w.heap.size w wr)) (fun _ i _ => l.length - (intOf i).toNat)
 case atStart => exact ⟨.slice none 0 0, [], left, Nat.zero_le _, rfl, rfl, Nat.le_refl _, HM0, rfl, Kept.refl _ _, hb9⟩
 case round =>
  rename World => V
  obtain ⟨cv, ds, m, hj, rfl, rfl, hml, HM, HEq, HKp, HB⟩ := hrel
  obtain ⟨oa, oc, hcv⟩ := HM.out.slice
  subst hcv
  have hltV := HM.out.lt
  have hown := HM.out.own
  have kBV := HKp.out.heap (q := w.heap.size) ⟨by omega, by omega⟩ HB9.out
  have kRV := HKp.out.heap (q := w.heap.size + 1) ⟨by omega, by omega⟩ HR9.out
  have hbV := HB.out
  obtain ⟨c0, c1, c2, c3, c4, c5⟩ := cnQ kBV
  by_cases hjl : ds.length < l.length
  ·have HP := hJQ HX0.out.parts
   have HV : Hid (Kept (fun b => P b/\b < w.heap.size) w V) := Kept.of_below HB.out
   have hjl0 := hjl
   obtain ⟨b, off, yop, yn, ys, yk, yns, yl, yka, ykn, ykc, yna, ync, ya, ycc, fd, hbl, hq, hy, hmem, hv, HT, e0, e1, e2, e3, e4, e5⟩ := part_at (HV.out.row HP.out.row) (fun y hy => HV.out.con (HP.out.all y hy)) ds.length hjl
   subst fd
   have HTL := hJQ HT
   have hm' : pC (ConD.mk yop yn ys yk (.slice yna yns.length ync) yns (.slice ya yl.length ycc) yl) ∈ l.map pC := List.mem_map_of_mem hmem
   have hup : ∀ b, V.heap.size<=b->(((fun b => P b/\b ≠ w.heap.size + 1) b/\b ≠ w.heap.size + 2)/\(Value.slice oa ds.length oc).ownBlock ≠ some b) := fun b hb => ⟨⟨⟨HPP.out b (by omega), by omega⟩, by omega⟩, fun e => by have := (hown.lt b e).2; omega⟩
   have HC := IHF (ConD.mk yop yn ys yk (.slice yna yns.length ync) yns (.slice ya yl.length ycc) yl) (fun b => (((fun b => P b/\b ≠ w.heap.size + 1) b/\b ≠ w.heap.size + 2)/\(Value.slice oa ds.length oc).ownBlock ≠ some b)) V m hup (hy.mono (fun b hb _ => ⟨⟨⟨hb.1, by have := hb.2; omega⟩, by have := hb.2; omega⟩, fun e => by have h1 := hb.2; have := (hown.lt b e).1; omega⟩)) (HFS.out.2.2.2.1 _ hm') (HBS.out _ hm') (by omega) (by have := dGQ _ _ hm'; have h8 : m * 401<=left * 401 := Nat.mul_le_mul_right _ hml; omega) (by have := dGQ _ _ hm'; omega) (by have := sLQ _ _ hm'; omega)
   rw [hv] at HC
   have HC := hJQ HC
   have hfy := hJQ (HFS.out.2.2.2.1 _ hm')
   clear hy hmem hv hq HP HV HT hm' hup
   generalize pC (ConD.mk yop yn ys yk (.slice yna yns.length ync) yns (.slice ya yl.length ycc) yl) = py at *
   go_wp2_with fail
   refine HC.out.mono ?_
   rintro e w2 ⟨d, r, rfl, hdd, hb2, hno, hyes⟩
   have hbw2 := hbV.trans (hb2.mono hbV.size)
   have kR2 := (hb2.block _ (hLQ kRV)).trans kRV
   obtain ⟨zop, zn, zs, zk, zns, zl, zka, zkn, zkc, zna, znc, za, zc, rfl, hzk, _⟩ := cSQ hdd
   rw [cVQ (op := zop) (n := zn) (s := zs) (nv := .slice zna zns.length znc) (lv := .slice za zl.length zc) (ns := zns) (l := zl) hzk]
   have hce : cEQ (ConD.mk zop zn zs zk (.slice zna zns.length znc) zns (.slice za zl.length zc) zl) = [.int .i64 zop, .int .i64 zn, .string zs, .slice zka zkn zkc, .slice zna zns.length znc, .slice za zl.length zc] := by show [_, _, _, zk.v, _, _] = _; rw [hzk]; rfl
   have hs2 := hb2.size
   have HM2 := hJQ (HM.out.grown (gLQ hb2) (by nofun))
   have hga := gAQ w2 (.cells #[.int .i64 0, .int .i64 0, .string ⟨#[]⟩, .slice none 0 0, .slice none 0 0, .slice none 0 0] 28)
   have hrw := gRQ (w2.alloc (.cells #[.int .i64 0, .int .i64 0, .string ⟨#[]⟩, .slice none 0 0, .slice none 0 0, .slice none 0 0] 28)) w2.heap.size #[.int .i64 zop, .int .i64 zn, .string zs, .slice zka zkn zkc, .slice zna zns.length znc, .slice za zl.length zc]
   have kN := nHQ w2 (.cells #[.int .i64 0, .int .i64 0, .string ⟨#[]⟩, .slice none 0 0, .slice none 0 0, .slice none 0 0] 28)
   have kO3 := setRow_heap (w2.alloc (.cells #[.int .i64 0, .int .i64 0, .string ⟨#[]⟩, .slice none 0 0, .slice none 0 0, .slice none 0 0] 28)) w2.heap.size _ #[.int .i64 zop, .int .i64 zn, .string zs, .slice zka zkn zkc, .slice zna zns.length znc, .slice za zl.length zc] _ _ kN
   have sN : ((w2.alloc (.cells #[.int .i64 0, .int .i64 0, .string ⟨#[]⟩, .slice none 0 0, .slice none 0 0, .slice none 0 0] 28)).setRow w2.heap.size #[.int .i64 zop, .int .i64 zn, .string zs, .slice zka zkn zkc, .slice zna zns.length znc, .slice za zl.length zc]).heap.size = w2.heap.size + 1 := by rw [size_setRow]; simp
   have hlM := HM2.out.lt
   have hb3 := (hbw2.trans (gUQ (B := w.heap.size) hga (by omega) (by nofun))).trans (gUQ (B := w.heap.size) hrw (by simp; omega) (fun q hq => by have e2 : w2.heap.size = q := oJQ hq; omega))
   have hK3 : Kept (fun b => b < W3.heap.size/\b ≠ (w.heap.size + 2)) W3 ((w2.alloc (.cells #[.int .i64 0, .int .i64 0, .string ⟨#[]⟩, .slice none 0 0, .slice none 0 0, .slice none 0 0] 28)).setRow w2.heap.size #[.int .i64 zop, .int .i64 zn, .string zs, .slice zka zkn zkc, .slice zna zns.length znc, .slice za zl.length zc]) := ((HKp.out.trans (Kept.of_grown (gLQ hb2) (by nofun))).trans (Kept.of_grown hga (by nofun))).trans (Kept.of_grown hrw (fun q hq hp => by have e2 : w2.heap.size = q := oJQ hq; have := hp.1; omega))
   have kR3 := (hrw.block (w.heap.size + 1) (by simp; omega) (fun e => by have e2 : (w.heap.size + 1) = w2.heap.size := oJQ e; omega)).trans ((hga.block (w.heap.size + 1) (by omega) (by nofun)).trans kR2)
   have hd3 := (hdd.lt.grown hga (by nofun)).grown hrw (fun q hq hp => by have e2 : w2.heap.size = q := oJQ hq; have := hp.2; omega)
   have hM2 : MkC (fun b => (fun b => P b/\b ≠ w.heap.size + 1) b/\b < w2.heap.size) w2 W3.heap.size (w.heap.size + 2) (.int .i64 op) (.int .i64 n) (.string s) (.slice ka kn kc) (.slice na ns.length nc) (.slice oa ds.length oc) ds := ⟨HM2.out.cell, HM2.out.own, fun y hy => (HM2.out.els y hy).mono (fun b hb hlt => ⟨⟨⟨hb.1.1, hlt⟩, hb.1.2⟩, hb.2⟩), HM2.out.lo, HM2.out.lt⟩
   have hM3 := ((hM2.grown hga (by nofun)).grown hrw (fun q hq => by have e2 : w2.heap.size = q := oJQ hq; exact ⟨fun hp => by have := hp.2; omega, by omega, fun e => by have := (HM2.out.own.lt q e).2; omega⟩))
   have hM3 : MkC (fun b => P b/\b ≠ w.heap.size + 1) ((w2.alloc (.cells #[.int .i64 0, .int .i64 0, .string ⟨#[]⟩, .slice none 0 0, .slice none 0 0, .slice none 0 0] 28)).setRow w2.heap.size #[.int .i64 zop, .int .i64 zn, .string zs, .slice zka zkn zkc, .slice zna zns.length znc, .slice za zl.length zc]) W3.heap.size (w.heap.size + 2) (.int .i64 op) (.int .i64 n) (.string s) (.slice ka kn kc) (.slice na ns.length nc) (.slice oa ds.length oc) ds := ⟨hM3.cell, hM3.own, fun y hy => (hM3.els y hy).mono (fun b hb _ => ⟨⟨hb.1.1.1, hb.1.2⟩, hb.2⟩), hM3.lo, hM3.lt⟩
   have HM3 := hJQ hM3
   have HD3 := hJQ (hd3.mono (Q := fun b => ((fun b => P b/\b ≠ w.heap.size + 1) b/\b ≠ w.heap.size + 2)/\(Value.slice oa ds.length oc).ownBlock ≠ some b) (fun b hb _ => hb.1))
   have HK3 := hJQ hK3
   have HO3 := hJQ kO3
   have HR3 := hJQ kR3
   have HCE := hJQ hce
   clear hM2 hM3 hd3 hK3 kO3 kR3 hga hrw HM2 HM HKp HB hbV hbw2 hb2 kBV kRV kR2 hdd hzk hown c0 c1 c2 c3 c4 c5 e0 e1 e2 e3 e4 e5 HC hce
   have HSn : Hid (∀ q, nrmN F py m = q->normL (nrmN F) ((l.map pC).take (ds.length + 1)) left = match q with | none => none | some (y, m') => some (ds.map pC ++ [y], m')) := fun q hq => by
    rw [HTL.out, normL_snoc, HEq.out]
    simp only
    rw [hq]
    cases q <;> rfl
   have HNo := hJQ hno
   have HYes := hJQ hyes
   clear hno hyes
   go_upto_region 6 with (refine wpList_store_row rfl 28 _ _ rfl w2.heap.size _ rfl rfl 28 _ kN cIQ rfl (all_one _ rfl) ?_)
   clear kN
   have HSN := hJQ sN
   clear sN
   generalize (w2.alloc (.cells #[.int .i64 0, .int .i64 0, .string ⟨#[]⟩, .slice none 0 0, .slice none 0 0, .slice none 0 0] 28)).setRow w2.heap.size #[.int .i64 zop, .int .i64 zn, .string zs, .slice zka zkn zkc, .slice zna zns.length znc, .slice za zl.length zc] = V3 at *
   cases hres : nrmN F py m with
   | none =>
     obtain rfl := HNo.out hres
     have HRN : Hid ((nrmN (F + 1) (.mk op n s (pK k) ns (l.map pC)) left) = none) := by
      show normN cstB labsB (F + 1) _ left = none
      rw [normN_mk]
      have h1 : normL (nrmN F) ((l.map pC).take (ds.length + 1)) left = none := HSn.out none hres
      have h2 := normL_pre _ _ _ _ h1
      show (match normL (nrmN F) (l.map pC) left with | none => none | some (l', m) => hNQ cstB labsB (nrmN F) (.mk op n s (pK k) ns l') m) = none
      rw [h2]
     have kRz := HR3.out
     clear HNo HYes HSn HM3 HD3 HK3 HO3 HR3 HCE HEq HTL hres
     have hrow := gRQ V3 (w.heap.size + 1) #[.int .i64 0, .int .i64 0, .string ⟨#[]⟩, .slice none 0 0, .slice none 0 0, .slice none 0 0]
     have HRF := hJQ (setRow_heap V3 (w.heap.size + 1) _ #[.int .i64 0, .int .i64 0, .string ⟨#[]⟩, .slice none 0 0, .slice none 0 0, .slice none 0 0] _ _ kRz)
     have HBF := hJQ (hb3.trans (gUQ (B := w.heap.size) hrow (by have := hb3.size; omega) (fun q hq => by have e2 : (w.heap.size + 1) = q := oJQ hq; omega)))
     have HCF : Hid (IsCon P (V3.setRow (w.heap.size + 1) #[.int .i64 0, .int .i64 0, .string ⟨#[]⟩, .slice none 0 0, .slice none 0 0, .slice none 0 0]) zeroD) := zero_con _ _
     clear hrow
     go_wp2_with (refine wpList_store_row rfl 28 _ _ rfl (w.heap.size + 1) _ rfl rfl 28 _ kRz cIQ rfl (all_one _ rfl) ?_)
     refine bodyPost_ret (v := .tuple #[.agg #[.int .i64 0, .int .i64 0, .string ⟨#[]⟩, .slice none 0 0, .slice none 0 0, .slice none 0 0], .int .i64 (-1)]) ?_ rfl ⟨zeroD, -1, rfl, HCF.out, HBF.out, fun _ => rfl, fun y m hh => by rw [HRN.out] at hh; cases hh⟩
     rw [results_cell_tmp (p := 4) (u := 5) (ty := 28) rfl]
     simp [asAddr, run_loadVar_row _ _ _ _ _ _ _ HRF.out Tryz.underlying28 rfl cIQ, Result.andThen]
   | some q =>
     obtain ⟨y1, m1⟩ := q
     obtain ⟨hpd, rfl⟩ := HYes.out y1 m1 hres
     have hm1 : m1<=m := (norm_form cstB labsB F py m y1 m1 hfy.out hres).2
     have hEq2 : normL (nrmN F) ((l.map pC).take (ds.length + 1)) left = some (ds.map pC ++ [y1], m1) := HSn.out _ hres
     have HEq2 := hJQ hEq2
     have HPD := hJQ hpd
     have hmn : ¬ ((m1 : Int) < 0) := by omega
     obtain ⟨ii0, hii, hiz0, hiz1, hiz2⟩ := info_parts info_con
     clear HNo HYes HSn HEq HTL hres hEq2 hpd
     obtain ⟨t0, t1, t2, t3, t4, t5⟩ := cnQ HO3.out
     obtain ⟨x0, x1, x2, x3, x4, x5⟩ := cnQ HM3.out.cell
     have hlt3 := HM3.out.lt
     go_upto_region 8 with fail
     have HOw := hJQ HM3.out.own
     go_wp2_with (at_builtin; refine wpList_append_lies _ rfl _ _ 26 rfl W3.heap.size 28 ii0 (.agg #[.int .i64 0, .int .i64 0, .string ⟨#[]⟩, .slice none 0 0, .slice none 0 0, .slice none 0 0]) 6 104 Tryz.underlying26 hii hiz0 hiz1 hiz2 rfl (by decide) _ ds.length (cCQ ds) rfl (HOw.out.alloc _) ⟨V3.heap.size, 0, none⟩ 1 1 [.int .i64 zop, .int .i64 zn, .string zs, .slice zka zkn zkc, .slice zna zns.length znc, .slice za zl.length zc] rfl rfl (World.news_of_block (cs := #[.int .i64 zop, .int .i64 zn, .string zs, .slice zka zkn zkc, .slice zna zns.length znc, .slice za zl.length zc]) (nHQ V3 _)) (by intro u hu; simp at hu; rcases hu with rfl | rfl | rfl | rfl | rfl | rfl <;> rfl) (by decide) (by unfold maxLen; omega) (by omega) (by simp; omega) _ rfl ?_)
     intro gN cN w4 hown4 hgrow4 hat4 hlt4
     have hgA := gAQ V3 (.cells #[.int .i64 zop, .int .i64 zn, .string zs, .slice zka zkn zkc, .slice zna zns.length znc, .slice za zl.length zc] 28)
     have hs4 := hgrow4.size
     have sA : (V3.alloc (.cells #[.int .i64 zop, .int .i64 zn, .string zs, .slice zka zkn zkc, .slice zna zns.length znc, .slice za zl.length zc] 28)).heap.size = V3.heap.size + 1 := by simp
     have hgS := gSQ w4 (w.heap.size + 2) 5 (.slice (some ⟨gN, 0, none⟩) (ds.length + 1) cN)
     have kO4 := (hgrow4.block (w.heap.size + 2) (by omega) (fun e => by have := HOw.out.lt _ e.symm; omega)).trans ((hgA.block (w.heap.size + 2) (by omega) (by nofun)).trans HM3.out.cell)
     rw [← HCE.out, ← s9] at hown4
     have hMK := HM3.out.push (y := (ConD.mk zop zn zs zk (.slice zna zns.length znc) zns (.slice za zl.length zc) zl)) HD3.out hown4 hgrow4 (by rw [sA]; exact hat4)
     have hB4 : Below w.heap.size w (w4.setCell ⟨(w.heap.size + 2), 5, none⟩ (.slice (some ⟨gN, 0, none⟩) (ds.length + 1) cN)) := (((hb3.trans (gUQ hgA (by omega) (by nofun))).trans (gUQ hgrow4 (by omega) (fun q hq => by have := (HOw.out.lt q hq).1; omega)))).trans (gUQ hgS (by omega) (fun q hq => by have e2 : (w.heap.size + 2) = q := oJQ hq; omega))
     have hK4 : Kept (fun b => b < W3.heap.size/\b ≠ (w.heap.size + 2)) W3 (w4.setCell ⟨(w.heap.size + 2), 5, none⟩ (.slice (some ⟨gN, 0, none⟩) (ds.length + 1) cN)) := ((HK3.out.trans (Kept.of_grown hgA (by nofun))).trans (Kept.of_grown hgrow4 (fun q hq hp => by have := (HOw.out.lt q hq).1; have := hp.1; omega))).trans (Kept.of_grown hgS (fun q hq hp => hp.2 (oJQ hq).symm))
     have HZ := hJQ hMK
     have HZB := hJQ hB4
     have HZK := hJQ hK4
     have HZI : Hid (normL (nrmN F) ((l.map pC).take (ds ++ [(ConD.mk zop zn zs zk (.slice zna zns.length znc) zns (.slice za zl.length zc) zl)]).length) left = some ((ds ++ [(ConD.mk zop zn zs zk (.slice zna zns.length znc) zns (.slice za zl.length zc) zl)]).map pC, m1)) := by
      show _ = _
      rw [List.map_append, List.length_append, show [(ConD.mk zop zn zs zk (.slice zna zns.length znc) zns (.slice za zl.length zc) zl)].length = 1 from rfl, HEq2.out, ← HPD.out]; rfl
     obtain ⟨_, _, _, _, _, fz⟩ := frozen6 kO4
     obtain ⟨_, _, _, _, _, pz⟩ := cnQ kO4
     clear hMK hB4 hK4 hgA hgS hown4 hgrow4 hat4 HM3 HD3 HK3 HO3 HR3 HOw HEq2 HPD hb3 kO4 t0 t1 t2 t3 t4 t5 x0 x1 x2 x3 x4 x5
     go_wp2_with fail
     go_roundw
     case rel => exact ⟨_, ds ++ [(ConD.mk zop zn zs zk (.slice zna zns.length znc) zns (.slice za zl.length zc) zl)], m1, by rw [List.length_append]; exact hjl0, rfl, by rw [List.length_append]; go_num, by omega, HZ, HZI, HZK, HZB⟩
     case measure => simp [intOf]; omega
  ·have hjl' : Hid (ds.length = l.length) := by show _ = _; omega
   have hnot : ¬ (ds.length : Int) < l.length := by omega
   have HRes0 : Hid ((nrmN (F + 1) (.mk op n s (pK k) ns (l.map pC)) left) = hNQ cstB labsB (nrmN F) (pC (ConD.mk op n s k (.slice na ns.length nc) ns (.slice oa ds.length oc) ds)) m/\frmC (pC (ConD.mk op n s k (.slice na ns.length nc) ns (.slice oa ds.length oc) ds)) = true/\bndC (pC (ConD.mk op n s k (.slice na ns.length nc) ns (.slice oa ds.length oc) ds))) := by
    have hNL := HEq.out
    rw [hjl'.out, take_all] at hNL
    refine ⟨?_, ?_, ?_⟩
    ·show normN cstB labsB (F + 1) _ left = _
     rw [normN_mk, pMQ]
     show (match normL (nrmN F) (l.map pC) left with | none => none | some (l', m) => hNQ cstB labsB (nrmN F) (.mk op n s (pK k) ns l') m) = _
     rw [hNL]
    ·rw [pMQ]; exact (mid_form F op n s (pK k) ns (l.map pC) left _ m hfr0.out hNL).1
    ·rw [pMQ]
     obtain ⟨b1, b2, b3, b4⟩ := (bndC_mk ..).1 hbd0.out
     exact (bndC_mk ..).2 ⟨b1, b2, b3, normL_mem (Pr := bndC) (nrmN F) (l.map pC) left _ m (fun x hx a b d hn => norm_bnd F x a b d (HFS.out.2.2.2.1 x hx) (b4 x hx) hn) hNL⟩
   have HOut : Hid (IsCon (fun b => (P b/\b ≠ w.heap.size + 1)/\b ≠ w.heap.size + 2) V (ConD.mk op n s k (.slice na ns.length nc) ns (.slice oa ds.length oc) ds)) := by
    refine IsCon.mk ?_ ?_ (by have := HX.out.parts.nlen; exact this) ?_ (by have : maxLen = 9223372036854775807 := (by decide); omega) (fun y hy => (HM.out.els y hy).mono (fun b hb _ => hb.1))
    ·exact (HX0.out.parts.kind.keep hbV.size (fun b _ hlt => hbV.block b hlt)).mono (fun b hb _ => ⟨⟨hb.1, by have := hb.2; omega⟩, by have := hb.2; omega⟩)
    ·exact (HX0.out.parts.names.keep hbV.size (fun b _ hlt => hbV.block b hlt)).mono (fun b hb _ => ⟨⟨hb.1, by have := hb.2; omega⟩, by have := hb.2; omega⟩)
    ·exact rowP_owns hown (fun b hb => ⟨⟨HPP.out b (by omega), by omega⟩, by omega⟩)
   have HVO : Hid (conV (ConD.mk op n s k (.slice na ns.length nc) ns (.slice oa ds.length oc) ds) = .agg #[.int .i64 op, .int .i64 n, .string s, .slice ka kn kc, .slice na ns.length nc, .slice oa ds.length oc]) := cVQ HKS.out
   have HPO : Hid (pC (ConD.mk op n s k (.slice na ns.length nc) ns (.slice oa ds.length oc) ds) = .mk op n s (pK k) ns (ds.map pC)) := pMQ ..
   have hdl : Hid (ds.length<=1000) := by show _<=_; omega
   have HVa := rvalid_any _ (ConD.mk op n s k (.slice na ns.length nc) ns (.slice oa ds.length oc) ds) V HOut.out HRes0.out.2.2
   rw [HVO.out] at HVa
   have HVa := hJQ HVa
   have kOV := HM.out.cell
   obtain ⟨x0, x1, x2, x3, x4, x5⟩ := cnQ kOV
   clear HEq hown
   go_wp2_with fail
   clear c0 c1 c2 c3 c4 c5 hnot
   refine HVa.out.mono ?_
   rintro e w5 ⟨rfl, hb5⟩
   have hbw5 := hbV.trans (hb5.mono hbV.size)
   have kO5 := (hb5.block _ (hLQ kOV)).trans kOV
   have kR5 := (hb5.block _ (hLQ kRV)).trans kRV
   have HO5 := hJQ (iBQ HOut.out hb5)
   obtain ⟨vb, hvb⟩ : ∃ q9, valC (pC (ConD.mk op n s k (.slice na ns.length nc) ns (.slice oa ds.length oc) ds)) = q9 := ⟨_, rfl⟩
   rw [hvb]
   have HVB := hJQ hvb
   clear HVa hvb x0 x1 x2 x3 x4 x5 kOV kRV kBV HM HKp HB HOut hb5
   cases vb
   ·have HRN : Hid ((nrmN (F + 1) (.mk op n s (pK k) ns (l.map pC)) left) = none) := by
     show _ = _
     rw [HRes0.out.1]
     unfold hNQ
     have hsm : smallC (pC (ConD.mk op n s k (.slice na ns.length nc) ns (.slice oa ds.length oc) ds)) = false := by
      have h1 := HVB.out
      have h2 : (smallC (pC (ConD.mk op n s k (.slice na ns.length nc) ns (.slice oa ds.length oc) ds)) && frmC (pC (ConD.mk op n s k (.slice na ns.length nc) ns (.slice oa ds.length oc) ds))) = false := h1
      rw [HRes0.out.2.1, Bool.and_true] at h2
      exact h2
     rw [if_pos hsm]
    have hrow := gRQ w5 (w.heap.size + 1) #[.int .i64 0, .int .i64 0, .string ⟨#[]⟩, .slice none 0 0, .slice none 0 0, .slice none 0 0]
    have HRF := hJQ (setRow_heap w5 (w.heap.size + 1) _ #[.int .i64 0, .int .i64 0, .string ⟨#[]⟩, .slice none 0 0, .slice none 0 0, .slice none 0 0] _ _ kR5)
    have HBF := hJQ (hbw5.trans (gUQ (B := w.heap.size) hrow (by have := hbw5.size; omega) (fun q hq => by have e2 : (w.heap.size + 1) = q := oJQ hq; omega)))
    have HCF : Hid (IsCon P (w5.setRow (w.heap.size + 1) #[.int .i64 0, .int .i64 0, .string ⟨#[]⟩, .slice none 0 0, .slice none 0 0, .slice none 0 0]) zeroD) := zero_con _ _
    clear hrow
    go_wp2_with (refine wpList_store_row rfl 28 _ _ rfl (w.heap.size + 1) _ rfl rfl 28 _ kR5 cIQ rfl (all_one _ rfl) ?_)
    refine bodyPost_ret (v := .tuple #[.agg #[.int .i64 0, .int .i64 0, .string ⟨#[]⟩, .slice none 0 0, .slice none 0 0, .slice none 0 0], .int .i64 (-1)]) ?_ rfl ⟨zeroD, -1, rfl, HCF.out, HBF.out, fun _ => rfl, fun y m hh => by rw [HRN.out] at hh; cases hh⟩
    rw [results_cell_tmp (p := 4) (u := 5) (ty := 28) rfl]
    simp [asAddr, run_loadVar_row _ _ _ _ _ _ _ HRF.out Tryz.underlying28 rfl cIQ, Result.andThen]
   ·obtain ⟨hO1, hO2, _⟩ := val_iff.1 HVB.out
    have HSm : Hid (smallC (pC (ConD.mk op n s k (.slice na ns.length nc) ns (.slice oa ds.length oc) ds)) = true) := smallC_iff.2 ⟨hO1, hO2⟩
    have hlo5 := hLQ kO5
    by_cases q12 : op = 12
    ·subst q12
     have hff9 := HRes0.out.2.1
     rw [HPO.out] at hff9
     obtain ⟨fd, gd, hds⟩ := two_parts hff9
     have hrow1 : RowP (fun b => (P b/\b ≠ w.heap.size + 1)/\b ≠ w.heap.size + 2) w5 (.slice oa [fd, gd].length oc) [fd, gd].length (cCQ [fd, gd]) := by have := HO5.out.parts.row; rw [hds] at this; exact this
     obtain ⟨pb, pof, hoa, ⟨hPb, hPl⟩, u0, u1, u2, u3, u4, u5⟩ := part_0 hrow1
     subst hoa
     obtain ⟨v0, v1, v2, v3, v4, v5⟩ := part_1 hrow1
     have hfc : IsCon (fun b => (P b/\b ≠ w.heap.size + 1)/\b ≠ w.heap.size + 2) w5 fd := HO5.out.parts.all fd (by rw [hds]; simp)
     have hgc : IsCon (fun b => (P b/\b ≠ w.heap.size + 1)/\b ≠ w.heap.size + 2) w5 gd := HO5.out.parts.all gd (by rw [hds]; simp)
     have hff : frmC (pC fd) = true := (fSQ hff9).2.2.2.1 _ (by rw [hds]; simp)
     have hfg : frmC (pC gd) = true := (fSQ hff9).2.2.2.1 _ (by rw [hds]; simp)
     have hbo9 := HRes0.out.2.2
     rw [HPO.out] at hbo9
     have hbf : bndC (pC fd) := bnd_part hbo9 (by rw [hds]; simp)
     have hbg : bndC (pC gd) := bnd_part hbo9 (by rw [hds]; simp)
     have HBO9 := hJQ hbo9
     have hl0 : (0 : Int) < ds.length := by rw [hds]; simp
     obtain ⟨x0, x1, x2, x3, x4, x5⟩ := cnQ kO5
     clear hrow1 hff9 hbo9
     by_cases q11 : fd.op = 11
     ·have u0' := u0
      rw [q11] at u0'
      go_upto_region 13 with fail
      clear x0 x1 x2 x3 x4 x5 u0' hl0
      obtain ⟨fop, fn, fs, fk, fns, fl, fka, fkn, fkc, fna, fnc, fa, fcc, rfl, hfk, _⟩ := cSQ hfc
      obtain ⟨gop, gn, gs, gk, gns, gl, gka, gkn, gkc, gna, gnc, ga, gcc, rfl, hgk, _⟩ := cSQ hgc
      have q11 : fop = 11 := q11
      subst q11
      simp only [ConD.op, ConD.n, ConD.s, ConD.k, ConD.nv, ConD.lv, hfk] at u0 u1 u2 u3 u4 u5
      simp only [ConD.op, ConD.n, ConD.s, ConD.k, ConD.nv, ConD.lv, hgk] at v0 v1 v2 v3 v4 v5
      have hff2 := hff
      rw [pMQ] at hff2
      obtain ⟨yd, hfl⟩ := one_part hff2 rfl
      have hrowf := hfc.parts.row
      have hydc : IsCon (fun b => (P b/\b ≠ w.heap.size + 1)/\b ≠ w.heap.size + 2) w5 yd := hfc.parts.all yd (by rw [hfl]; simp)
      have hrowf : RowP (fun b => (P b/\b ≠ w.heap.size + 1)/\b ≠ w.heap.size + 2) w5 (.slice fa [yd].length fcc) [yd].length (cCQ [yd]) := by rw [hfl] at hrowf; exact hrowf
      obtain ⟨qb, qof, hqa, ⟨hqP, hql⟩, r0, r1, r2, r3, r4, r5⟩ := part_0 hrowf
      subst hqa
      have u5 : w5.cell? ⟨pb, pof + 5, none⟩ = some (.slice (some ⟨qb, qof, none⟩) 1 fcc) := by rw [u5, hfl]; rfl
      obtain ⟨yop, yn, ys, yk, yns, yl, yka, ykn, ykc, yna, ync, ya, ycc, rfl, hyk, _⟩ := cSQ hydc
      simp only [ConD.op, ConD.n, ConD.s, ConD.k, ConD.nv, ConD.lv, hyk] at r0 r1 r2 r3 r4 r5
      have HGV : Hid (conV (ConD.mk gop gn gs gk (.slice gna gns.length gnc) gns (.slice ga gl.length gcc) gl) = .agg #[.int .i64 gop, .int .i64 gn, .string gs, .slice gka gkn gkc, .slice gna gns.length gnc, .slice ga gl.length gcc]) := cVQ hgk
      have HYV : Hid (conV (ConD.mk yop yn ys yk (.slice yna yns.length ync) yns (.slice ya yl.length ycc) yl) = .agg #[.int .i64 yop, .int .i64 yn, .string ys, .slice yka ykn ykc, .slice yna yns.length ync, .slice ya yl.length ycc]) := cVQ hyk
      have hszp := pSQ (pC (.mk 11 fn fs fk (.slice fna fns.length fnc) fns (.slice (some ⟨qb, qof, none⟩) fl.length fcc) fl)) 12 n s (pK k) ns (ds.map pC) (by rw [hds]; simp)
      have hszg := pSQ (pC (ConD.mk gop gn gs gk (.slice gna gns.length gnc) gns (.slice ga gl.length gcc) gl)) 12 n s (pK k) ns (ds.map pC) (by rw [hds]; simp)
      rw [← HPO.out] at hszp hszg
      have hvy : sizeC (pC (ConD.mk yop yn ys yk (.slice yna yns.length ync) yns (.slice ya yl.length ycc) yl))<=20000/\dCQ (pC (ConD.mk yop yn ys yk (.slice yna yns.length ync) yns (.slice ya yl.length ycc) yl))<=400 := by
       have h1 := pSQ (pC (ConD.mk yop yn ys yk (.slice yna yns.length ync) yns (.slice ya yl.length ycc) yl)) 11 fn fs (pK fk) fns (fl.map pC) (by rw [hfl]; simp)
       rw [← pMQ 11 fn fs fk (.slice fna fns.length fnc) fns (.slice (some ⟨qb, qof, none⟩) fl.length fcc) fl] at h1
       exact ⟨by omega, by omega⟩
      have hfy9 : frmC (pC (ConD.mk yop yn ys yk (.slice yna yns.length ync) yns (.slice ya yl.length ycc) yl)) = true := (fSQ hff2).2.2.2.1 _ (by rw [hfl]; simp)
      have hby : bndC (pC (ConD.mk yop yn ys yk (.slice yna yns.length ync) yns (.slice ya yl.length ycc) yl)) := by
       have := hbf
       rw [pMQ] at this
       exact bnd_part this (by rw [hfl]; simp)
      have HHead : Hid ((nrmN (F + 1) (.mk 12 n s (pK k) ns (l.map pC)) left) = betaN F (sC9 [pC (ConD.mk gop gn gs gk (.slice gna gns.length gnc) gns (.slice ga gl.length gcc) gl)] 0 (pC (ConD.mk yop yn ys yk (.slice yna yns.length ync) yns (.slice ya yl.length ycc) yl))) m) := by
       show _ = _
       have hb2 := HSm.out
       rw [HRes0.out.1]
       rw [HPO.out, hds] at hb2 ⊢
       subst hfl
       unfold hNQ
       rw [if_neg (by rw [hb2]; decide), if_pos (show (Cn.mk 12 n s (pK k) ns _).op = 12/\_ from ⟨rfl, by rw [List.map_cons, pMQ]; rfl⟩)]
       rw [List.map_cons, List.map_cons, List.map_nil, pMQ 11]
       cases m <;> rfl
      have hbT : bndC (sC9 [pC (ConD.mk gop gn gs gk (.slice gna gns.length gnc) gns (.slice ga gl.length gcc) gl)] 0 (pC (ConD.mk yop yn ys yk (.slice yna yns.length ync) yns (.slice ya yl.length ycc) yl))) := bnd_subst _ (fun x hx => by rw [List.mem_singleton.1 hx]; exact hbg) _ 0 hby
      have hln2 : Hid (ds.length = 2) := by show _ = _; rw [hds]; rfl
      have hz5 := hbw5.size
      have genc : cEQ (ConD.mk gop gn gs gk (.slice gna gns.length gnc) gns (.slice ga gl.length gcc) gl) = [.int .i64 gop, .int .i64 gn, .string gs, .slice gka gkn gkc, .slice gna gns.length gnc, .slice ga gl.length gcc] := by show [_, _, _, gk.v, _, _] = _; rw [hgk]; rfl
      have HGr : Hid (∀ U b9, Below w5.heap.size w5 U->U.heap[b9]? = some (.cells #[.int .i64 gop, .int .i64 gn, .string gs, .slice gka gkn gkc, .slice gna gns.length gnc, .slice ga gl.length gcc] 28 (0, 0))->Calls Tryz.prog 39 #[.agg #[.int .i64 yop, .int .i64 yn, .string ys, .slice yka ykn ykc, .slice yna yns.length ync, .slice ya yl.length ycc], .slice (some ⟨b9, 0, none⟩) 1 1] U fun e w' => e = .returned (.int .i64 (sizeC (sC9 [pC (ConD.mk gop gn gs gk (.slice gna gns.length gnc) gns (.slice ga gl.length gcc) gl)] 0 (pC (ConD.mk yop yn ys yk (.slice yna yns.length ync) yns (.slice ya yl.length ycc) yl))) : Nat))/\Below U.heap.size U w') := fun U b9 hU hb9 => by
       have hrg : RowP (fun _ => True) U (.slice (some ⟨b9, 0, none⟩) 1 1) 1 (cEQ (ConD.mk gop gn gs gk (.slice gna gns.length gnc) gns (.slice ga gl.length gcc) gl)) := by
        rw [genc]
        exact one_row trivial hb9
       have := rGrown_any (fun _ => True) (ConD.mk yop yn ys yk (.slice yna yns.length ync) yns (.slice ya yl.length ycc) yl) (ConD.mk gop gn gs gk (.slice gna gns.length gnc) gns (.slice ga gl.length gcc) gl) (some ⟨b9, 0, none⟩) 1 U ((iBQ hydc hU).mono (fun _ _ _ => trivial)) hfy9 (by omega) (by omega) hrg ((iBQ hgc hU).mono (fun _ _ _ => trivial)) hfg (by omega)
       rw [HYV.out] at this
       exact this
      have HSu : Hid (∀ U b9 N9, Below w5.heap.size w5 U->w5.heap.size<=b9->b9 ≠ N9->N9 < U.heap.size->(w5.heap.size<=N9 ∨ N9 = w.heap.size + 1)->U.heap[b9]? = some (.cells #[.int .i64 gop, .int .i64 gn, .string gs, .slice gka gkn gkc, .slice gna gns.length gnc, .slice ga gl.length gcc] 28 (0, 0))->Calls Tryz.prog 40 #[.agg #[.int .i64 yop, .int .i64 yn, .string ys, .slice yka ykn ykc, .slice yna yns.length ync, .slice ya yl.length ycc], .slice (some ⟨b9, 0, none⟩) 1 1] U fun e w' => ConOut (fun b => (fun b => P b/\b ≠ w.heap.size + 1) b/\b ≠ N9) (sC9 [pC (ConD.mk gop gn gs gk (.slice gna gns.length gnc) gns (.slice ga gl.length gcc) gl)] 0 (pC (ConD.mk yop yn ys yk (.slice yna yns.length ync) yns (.slice ya yl.length ycc) yl))) e w'/\Below U.heap.size U w') := fun U b9 N9 hU hb8 hbN hN1 hN2 hb9 => by
       have hzU := hU.size
       have hrg : RowP (fun b => (fun b => P b/\b ≠ w.heap.size + 1) b/\b ≠ N9) U (.slice (some ⟨b9, 0, none⟩) 1 1) 1 (cEQ (ConD.mk gop gn gs gk (.slice gna gns.length gnc) gns (.slice ga gl.length gcc) gl)) := by
        rw [genc]
        exact one_row ⟨⟨HPP.out b9 (by omega), by omega⟩, hbN⟩ hb9
       have hold : ∀ b, ((fun b => (P b/\b ≠ w.heap.size + 1)/\b ≠ w.heap.size + 2) b/\b < w5.heap.size)->b < w5.heap.size->((fun b => P b/\b ≠ w.heap.size + 1) b/\b ≠ N9) := fun b hb _ => ⟨hb.1.1, fun e => by
        rcases hN2 with h9 | h9
        ·have := hb.2; omega
        ·exact hb.1.1.2 (by rw [e, h9])⟩
       have := rSubst_any (fun b => (fun b => P b/\b ≠ w.heap.size + 1) b/\b ≠ N9) (ConD.mk yop yn ys yk (.slice yna yns.length ync) yns (.slice ya yl.length ycc) yl) (ConD.mk gop gn gs gk (.slice gna gns.length gnc) gns (.slice ga gl.length gcc) gl) (some ⟨b9, 0, none⟩) 1 U (fun b hb => ⟨⟨HPP.out b (by omega), by omega⟩, by omega⟩) (iBQ (hydc.lt.mono hold) hU) hfy9 (by omega) (by omega) hrg (iBQ (hgc.lt.mono hold) hU) hfg (by omega) (by omega)
       rw [HYV.out] at this
       exact this
      generalize hT : sC9 [pC (ConD.mk gop gn gs gk (.slice gna gns.length gnc) gns (.slice ga gl.length gcc) gl)] 0 (pC (ConD.mk yop yn ys yk (.slice yna yns.length ync) yns (.slice ya yl.length ycc) yl)) = T at *
      have SALL : ∀ U, Below w5.heap.size w5 U->(fun w9 => w9.cell? ⟨w.heap.size + 2, 5, none⟩ = some (.slice (some ⟨pb, pof, none⟩) 2 oc)/\w9.cell? ⟨pb, pof + 5, none⟩ = some (.slice (some ⟨qb, qof, none⟩) 1 fcc)/\w9.cell? ⟨pb, pof + 6, none⟩ = some (.int .i64 gop)/\w9.cell? ⟨pb, pof + 6 + 1, none⟩ = some (.int .i64 gn)/\w9.cell? ⟨pb, pof + 6 + 2, none⟩ = some (.string gs)/\w9.cell? ⟨pb, pof + 6 + 3, none⟩ = some (.slice gka gkn gkc)/\w9.cell? ⟨pb, pof + 6 + 4, none⟩ = some (.slice gna gns.length gnc)/\w9.cell? ⟨pb, pof + 6 + 5, none⟩ = some (.slice ga gl.length gcc)/\w9.cell? ⟨qb, qof, none⟩ = some (.int .i64 yop)/\w9.cell? ⟨qb, qof + 1, none⟩ = some (.int .i64 yn)/\w9.cell? ⟨qb, qof + 2, none⟩ = some (.string ys)/\w9.cell? ⟨qb, qof + 3, none⟩ = some (.slice yka ykn ykc)/\w9.cell? ⟨qb, qof + 4, none⟩ = some (.slice yna yns.length ync)/\w9.cell? ⟨qb, qof + 5, none⟩ = some (.slice ya yl.length ycc)) U := fun U hU => by
       have cU : ∀ (o : Nat) (v : Value), w5.cell? ⟨pb, o, none⟩ = some v->U.cell? ⟨pb, o, none⟩ = some v := fun o v hc => (World.cell?_of_block (a := ⟨pb, o, none⟩) (hU.block pb hPl)).trans hc
       have cV : ∀ (o : Nat) (v : Value), w5.cell? ⟨qb, o, none⟩ = some v->U.cell? ⟨qb, o, none⟩ = some v := fun o v hc => (World.cell?_of_block (a := ⟨qb, o, none⟩) (hU.block qb hql)).trans hc
       exact ⟨(congrArg (fun q => some (Value.slice (some ⟨pb, pof, none⟩) q oc)) hln2.out) ▸ (cnQ ((hU.block _ hlo5).trans kO5)).2.2.2.2.2, cU _ _ u5, cU _ _ v0, cU _ _ v1, cU _ _ v2, cU _ _ v3, cU _ _ v4, cU _ _ v5, cV _ _ r0, cV _ _ r1, cV _ _ r2, cV _ _ r3, cV _ _ r4, cV _ _ r5⟩
      have HSA := hJQ SALL
      have HBT := hJQ hbT
      clear HSm HBO9 HRes0 SALL hfl hff2 hff hfg hbf hbg hvy hby hfy9 hszp hszg hfc hgc hydc hrowf hfk hgk hyk u1 u2 u3 u4 u5 v0 v1 v2 v3 v4 v5 r0 r1 r2 r3 r4 r5 hT hbT genc hds HO5 HVO HPO HVB
      cases m with
      | zero =>
        have HRN : Hid ((nrmN (F + 1) (.mk 12 n s (pK k) ns (l.map pC)) left) = none) := HHead.out
        clear HSA HGr HSu HBT HHead
        have hrow := gRQ w5 (w.heap.size + 1) #[.int .i64 0, .int .i64 0, .string ⟨#[]⟩, .slice none 0 0, .slice none 0 0, .slice none 0 0]
        have HRF := hJQ (setRow_heap w5 (w.heap.size + 1) _ #[.int .i64 0, .int .i64 0, .string ⟨#[]⟩, .slice none 0 0, .slice none 0 0, .slice none 0 0] _ _ kR5)
        have HBF := hJQ (hbw5.trans (gUQ (B := w.heap.size) hrow (by have := hbw5.size; omega) (fun q hq => by have e2 : (w.heap.size + 1) = q := oJQ hq; omega)))
        have HCF : Hid (IsCon P (w5.setRow (w.heap.size + 1) #[.int .i64 0, .int .i64 0, .string ⟨#[]⟩, .slice none 0 0, .slice none 0 0, .slice none 0 0]) zeroD) := zero_con _ _
        clear hrow
        go_wp2_with (refine wpList_store_row rfl 28 _ _ rfl (w.heap.size + 1) _ rfl rfl 28 _ kR5 cIQ rfl (all_one _ rfl) ?_)
        refine bodyPost_ret (v := .tuple #[.agg #[.int .i64 0, .int .i64 0, .string ⟨#[]⟩, .slice none 0 0, .slice none 0 0, .slice none 0 0], .int .i64 (-1)]) ?_ rfl ⟨zeroD, -1, rfl, HCF.out, HBF.out, fun _ => rfl, fun y m hh => by rw [HRN.out] at hh; cases hh⟩
        rw [results_cell_tmp (p := 4) (u := 5) (ty := 28) rfl]
        simp [asAddr, run_loadVar_row _ _ _ _ _ _ _ HRF.out Tryz.underlying28 rfl cIQ, Result.andThen]
      | succ m' =>
        have hmz : ¬ (((m' : Int) + 1) = 0) := by omega
        have hcast : ((m' + 1 : Nat) : Int) = (m' : Int) + 1 := rfl
        rw [hcast] at *
        go_upto_region 15 with fail
        clear u0
        have hbD : Below w5.heap.size w5 w5.drew := (Below.refl _ _).drew
        have S0 := HSA.out _ hbD
        refine wp_region_held_drew (S := (fun w9 => w9.cell? ⟨w.heap.size + 2, 5, none⟩ = some (.slice (some ⟨pb, pof, none⟩) 2 oc)/\w9.cell? ⟨pb, pof + 5, none⟩ = some (.slice (some ⟨qb, qof, none⟩) 1 fcc)/\w9.cell? ⟨pb, pof + 6, none⟩ = some (.int .i64 gop)/\w9.cell? ⟨pb, pof + 6 + 1, none⟩ = some (.int .i64 gn)/\w9.cell? ⟨pb, pof + 6 + 2, none⟩ = some (.string gs)/\w9.cell? ⟨pb, pof + 6 + 3, none⟩ = some (.slice gka gkn gkc)/\w9.cell? ⟨pb, pof + 6 + 4, none⟩ = some (.slice gna gns.length gnc)/\w9.cell? ⟨pb, pof + 6 + 5, none⟩ = some (.slice ga gl.length gcc)/\w9.cell? ⟨qb, qof, none⟩ = some (.int .i64 yop)/\w9.cell? ⟨qb, qof + 1, none⟩ = some (.int .i64 yn)/\w9.cell? ⟨qb, qof + 2, none⟩ = some (.string ys)/\w9.cell? ⟨qb, qof + 3, none⟩ = some (.slice yka ykn ykc)/\w9.cell? ⟨qb, qof + 4, none⟩ = some (.slice yna yns.length ync)/\w9.cell? ⟨qb, qof + 5, none⟩ = some (.slice ya yl.length ycc))) (by kernel_rfl) S0 (fun hHeld => ?_)
        refine tks (b := ?_) (by kernel_rfl) (fun _ _ _ _ _ h => h) S0 11 [0, 1, 2, 3, 4, 5, 6, 7, 8, 9, 10] (by kernel_rfl) ?_ ?_
        rotate_left
        ·iterate 11 (refine yc (v := ?_) rfl rfl (by rfl) (fun w9 hSw => ?_) ?_; rotate_left; (focus go_simp; try rfl); simp only [Act.put, l1Q, l2Q, l3Q])
         exact rfl
        refine rd1 11 (by kernel_rfl) (by rfl) (fun K hK => ?_)
        go_simp
        have hbA : Below w5.heap.size w5 (w5.drew.alloc (.cells #[.int .i64 gop, .int .i64 gn, .string gs, .slice gka gkn gkc, .slice gna gns.length gnc, .slice ga gl.length gcc] 28)) := hbD.alloc hbD.size _
        have kA := nHQ w5.drew (.cells #[.int .i64 gop, .int .i64 gn, .string gs, .slice gka gkn gkc, .slice gna gns.length gnc, .slice ga gl.length gcc] 28)
        refine hK.out _ _ (HSA.out _ hbA) (fun _ => ?_)
        clear hK K
        refine rd1 12 (by kernel_rfl) (by rfl) (fun K hK => ?_)
        go_simp
        go_at_call 39
        refine (HGr.out _ _ hbA kA).mono ?_
        rintro e v1 ⟨rfl, hbv1⟩
        have hbA1 := hbA.trans (hbv1.mono hbA.size)
        refine hK.out _ _ (HSA.out _ hbA1) (fun _ => ?_)
        clear hK K
        refine rd1 13 (by kernel_rfl) (by rfl) (fun K hK => ?_)
        go_simp
        refine hK.out _ _ (HSA.out _ hbA1) (fun _ => ?_)
        clear hK K
        refine wpAnyH_done (by kernel_rfl) ?_ _
        have HBA1 := hJQ hbA1
        clear hbD hbA kA hbv1 hHeld S0 HGr hbA1
        have hbA1 := HBA1.out
        have hbw6 := hbw5.trans (hbA1.mono hbw5.size)
        have kR6 := (hbA1.block _ (hLQ kR5)).trans kR5
        by_cases hgs : 20000 < sizeC T
        ·have HRN : Hid ((nrmN (F + 1) (.mk 12 n s (pK k) ns (l.map pC)) left) = none) := by
          show _ = _
          rw [HHead.out]
          show (if valC T = true then nrmN F T m' else none) = none
          rw [if_neg (by rw [val_size (by omega)]; decide)]
         clear HSA HSu HBT HHead
         have hrow := gRQ v1 (w.heap.size + 1) #[.int .i64 0, .int .i64 0, .string ⟨#[]⟩, .slice none 0 0, .slice none 0 0, .slice none 0 0]
         have HRF := hJQ (setRow_heap v1 (w.heap.size + 1) _ #[.int .i64 0, .int .i64 0, .string ⟨#[]⟩, .slice none 0 0, .slice none 0 0, .slice none 0 0] _ _ kR6)
         have HBF := hJQ (hbw6.trans (gUQ (B := w.heap.size) hrow (by have := hbw6.size; omega) (fun q hq => by have e2 : (w.heap.size + 1) = q := oJQ hq; omega)))
         have HCF : Hid (IsCon P (v1.setRow (w.heap.size + 1) #[.int .i64 0, .int .i64 0, .string ⟨#[]⟩, .slice none 0 0, .slice none 0 0, .slice none 0 0]) zeroD) := zero_con _ _
         clear hrow
         go_wp2_with (refine wpList_store_row rfl 28 _ _ rfl (w.heap.size + 1) _ rfl rfl 28 _ kR6 cIQ rfl (all_one _ rfl) ?_)
         refine bodyPost_ret (v := .tuple #[.agg #[.int .i64 0, .int .i64 0, .string ⟨#[]⟩, .slice none 0 0, .slice none 0 0, .slice none 0 0], .int .i64 (-1)]) ?_ rfl ⟨zeroD, -1, rfl, HCF.out, HBF.out, fun _ => rfl, fun y m hh => by rw [HRN.out] at hh; cases hh⟩
         rw [results_cell_tmp (p := 4) (u := 5) (ty := 28) rfl]
         simp [asAddr, run_loadVar_row _ _ _ _ _ _ _ HRF.out Tryz.underlying28 rfl cIQ, Result.andThen]
        have hgs' : ¬ (20000 : Int) < (sizeC T : Nat) := by omega
        go_upto_region 17 with fail
        clear hgs'
        have hbD : Below w5.heap.size w5 v1.drew := hbA1.drew
        have S0 := HSA.out _ hbD
        refine wp_region_held_drew (S := (fun w9 => w9.cell? ⟨w.heap.size + 2, 5, none⟩ = some (.slice (some ⟨pb, pof, none⟩) 2 oc)/\w9.cell? ⟨pb, pof + 5, none⟩ = some (.slice (some ⟨qb, qof, none⟩) 1 fcc)/\w9.cell? ⟨pb, pof + 6, none⟩ = some (.int .i64 gop)/\w9.cell? ⟨pb, pof + 6 + 1, none⟩ = some (.int .i64 gn)/\w9.cell? ⟨pb, pof + 6 + 2, none⟩ = some (.string gs)/\w9.cell? ⟨pb, pof + 6 + 3, none⟩ = some (.slice gka gkn gkc)/\w9.cell? ⟨pb, pof + 6 + 4, none⟩ = some (.slice gna gns.length gnc)/\w9.cell? ⟨pb, pof + 6 + 5, none⟩ = some (.slice ga gl.length gcc)/\w9.cell? ⟨qb, qof, none⟩ = some (.int .i64 yop)/\w9.cell? ⟨qb, qof + 1, none⟩ = some (.int .i64 yn)/\w9.cell? ⟨qb, qof + 2, none⟩ = some (.string ys)/\w9.cell? ⟨qb, qof + 3, none⟩ = some (.slice yka ykn ykc)/\w9.cell? ⟨qb, qof + 4, none⟩ = some (.slice yna yns.length ync)/\w9.cell? ⟨qb, qof + 5, none⟩ = some (.slice ya yl.length ycc))) (by kernel_rfl) S0 (fun hHeld => ?_)
        refine tks (b := ?_) (by kernel_rfl) (fun _ _ _ _ _ h => h) S0 11 [0, 1, 2, 3, 4, 5, 6, 7, 8, 9, 10] (by kernel_rfl) ?_ ?_
        rotate_left
        ·iterate 11 (refine yc (v := ?_) rfl rfl (by rfl) (fun w9 hSw => ?_) ?_; rotate_left; (focus go_simp; try rfl); simp only [Act.put, l1Q, l2Q, l3Q])
         exact rfl
        refine wpAnyH_ready (rs := [11, 13]) (by kernel_rfl) (by simp) (AllReadyH.cons (by rfl) (fun K hK => ?s11) (AllReadyH.cons (by rfl) (fun K hK => ?s13) (AllReadyH.nil)))
        case s11 =>
         go_simp
         have hbB : Below w5.heap.size w5 (v1.drew.alloc (.cells #[.int .i64 gop, .int .i64 gn, .string gs, .slice gka gkn gkc, .slice gna gns.length gnc, .slice ga gl.length gcc] 28)) := hbD.alloc hbD.size _
         have kB := nHQ v1.drew (.cells #[.int .i64 gop, .int .i64 gn, .string gs, .slice gka gkn gkc, .slice gna gns.length gnc, .slice ga gl.length gcc] 28)
         have lB := hbD.size
         refine hK.out _ _ (HSA.out _ hbB) (fun _ => ?_)
         clear hK K
         refine wpAnyH_ready (rs := [12, 13]) (by kernel_rfl) (by simp) (AllReadyH.cons (by rfl) (fun K hK => ?t12) (AllReadyH.cons (by rfl) (fun K hK => ?t13) (AllReadyH.nil)))
         case t12 =>
          go_simp
          go_at_call 40
          refine (HSu.out (v1.drew.alloc (.cells #[.int .i64 gop, .int .i64 gn, .string gs, .slice gka gkn gkc, .slice gna gns.length gnc, .slice ga gl.length gcc] 28)) v1.drew.heap.size (w.heap.size + 1) hbB lB (by have h8 := lB; have h9 := hlo5; omega) (by have h8 := hbB.size; have h9 := hlo5; omega) (Or.inr rfl) kB).mono ?_
          rintro e v2 ⟨⟨dd, rfl, hdd, hpd⟩, hbv2⟩
          obtain ⟨xop, xn, xs, xk, xns, xl, xka, xkn, xkc, xna, xnc, xa, xcc, rfl, hxk, _⟩ := cSQ hdd
          have HXV := hJQ (cVQ (op := xop) (n := xn) (s := xs) (nv := .slice xna xns.length xnc) (lv := .slice xa xl.length xcc) (ns := xns) (l := xl) hxk)
          rw [HXV.out]
          have hbC := hbB.trans (hbv2.mono hbB.size)
          have lC := hbv2.size
          refine hK.out _ _ (HSA.out _ hbC) (fun _ => ?_)
          clear hK K
          refine rd1 13 (by kernel_rfl) (by rfl) (fun K hK => ?_)
          go_simp
          have hbE : Below w5.heap.size w5 (v2.alloc (.cells #[.int .i64 0, .int .i64 0, .string ⟨#[]⟩, .slice none 0 0, .slice none 0 0, .slice none 0 0] 28)) := hbC.alloc hbC.size _
          have kE := nHQ v2 (.cells #[.int .i64 0, .int .i64 0, .string ⟨#[]⟩, .slice none 0 0, .slice none 0 0, .slice none 0 0] 28)
          have lE := hbC.size
          refine hK.out _ _ (HSA.out _ hbE) (fun _ => ?_)
          clear hK K
          have hlN : v2.heap.size < (v2.alloc (.cells #[.int .i64 0, .int .i64 0, .string ⟨#[]⟩, .slice none 0 0, .slice none 0 0, .slice none 0 0] 28)).heap.size := hLQ kE
          have hrow9 := gRQ (v2.alloc (.cells #[.int .i64 0, .int .i64 0, .string ⟨#[]⟩, .slice none 0 0, .slice none 0 0, .slice none 0 0] 28)) (v2.heap.size) #[.int .i64 xop, .int .i64 xn, .string xs, .slice xka xkn xkc, .slice xna xns.length xnc, .slice xa xl.length xcc]
          have hb9 : Below w5.heap.size w5 ((v2.alloc (.cells #[.int .i64 0, .int .i64 0, .string ⟨#[]⟩, .slice none 0 0, .slice none 0 0, .slice none 0 0] 28)).setRow (v2.heap.size) #[.int .i64 xop, .int .i64 xn, .string xs, .slice xka xkn xkc, .slice xna xns.length xnc, .slice xa xl.length xcc]) := hbE.trans (gUQ hrow9 (by have := hbE.size; omega) (fun q hq => by have e2 : v2.heap.size = q := oJQ hq; omega))
          refine held_store 14 (by kernel_rfl) (by rfl) (by rfl) (by rfl) 28 _ _ (by rfl) (v2.heap.size) #[.int .i64 xop, .int .i64 xn, .string xs, .slice xka xkn xkc, .slice xna xns.length xnc, .slice xa xl.length xcc] (by rfl) (by rfl) 28 _ kE cIQ rfl (all_one _ rfl) (HSA.out _ hb9) ?_
          refine wpAnyH_done (by kernel_rfl) ?_ _
          have HN9 := hJQ (setRow_heap (v2.alloc (.cells #[.int .i64 0, .int .i64 0, .string ⟨#[]⟩, .slice none 0 0, .slice none 0 0, .slice none 0 0] 28)) (v2.heap.size) _ #[.int .i64 xop, .int .i64 xn, .string xs, .slice xka xkn xkc, .slice xna xns.length xnc, .slice xa xl.length xcc] _ _ kE)
          have HR9 := hJQ ((hb9.block _ (hLQ kR5)).trans kR5)
          have HBW9 := hJQ (hbw5.trans (hb9.mono hbw5.size))
          have HD9 := hJQ (((hdd.lt.grown (gAQ v2 (.cells #[.int .i64 0, .int .i64 0, .string ⟨#[]⟩, .slice none 0 0, .slice none 0 0, .slice none 0 0] 28)) (by nofun)).grown hrow9 (fun q hq hp => by have e2 : v2.heap.size = q := oJQ hq; have := hp.2; omega)).mono (Q := (fun b => P b/\b ≠ w.heap.size + 1)) (fun b hb _ => hb.1.1))
          have HPX := hJQ hpd
          have HBT9 : Hid (bndC (pC (ConD.mk xop xn xs xk (.slice xna xns.length xnc) xns (.slice xa xl.length xcc) xl))) := by show bndC _; rw [hpd]; exact HBT.out
          generalize hVV : (v2.alloc (.cells #[.int .i64 0, .int .i64 0, .string ⟨#[]⟩, .slice none 0 0, .slice none 0 0, .slice none 0 0] 28)).setRow (v2.heap.size) #[.int .i64 xop, .int .i64 xn, .string xs, .slice xka xkn xkc, .slice xna xns.length xnc, .slice xa xl.length xcc] = V9 at *
          generalize hNN : v2.heap.size = N9 at *
          clear hVV hNN hrow9 hb9 hlN hbD hHeld S0 HSA HSu HBT hpd hxk hdd hbA1 HBA1 hbw6 kR6 kR5 hbB kB lB hbC lC hbE kE lE hbv2
          obtain ⟨x0, x1, x2, x3, x4, x5⟩ := cnQ HN9.out
          have HVn := rvalid_any _ (ConD.mk xop xn xs xk (.slice xna xns.length xnc) xns (.slice xa xl.length xcc) xl) V9 HD9.out HBT9.out
          rw [HXV.out] at HVn
          have HVn := hJQ HVn
          go_wp2_with fail
          refine HVn.out.mono ?_
          rintro e v5 ⟨rfl, hbv5⟩
          have hbw9 := HBW9.out
          have hbz5 := hbw9.trans (hbv5.mono hbw9.size)
          have kRz := (hbv5.block _ (hLQ HR9.out)).trans HR9.out
          have kNz := (hbv5.block _ (hLQ HN9.out)).trans HN9.out
          have hdz := iBQ HD9.out hbv5
          obtain ⟨vn, hvn⟩ : ∃ q9, valC (pC (ConD.mk xop xn xs xk (.slice xna xns.length xnc) xns (.slice xa xl.length xcc) xl)) = q9 := ⟨_, rfl⟩
          rw [hvn]
          have HVN := hJQ hvn
          clear HVn hvn x0 x1 x2 x3 x4 x5 hbv5
          cases vn
          ·have HRN : Hid ((nrmN (F + 1) (.mk 12 n s (pK k) ns (l.map pC)) left) = none) := by
            show _ = _
            rw [HHead.out]
            show (if valC T = true then nrmN F T m' else none) = none
            rw [← HPX.out, if_neg (by rw [HVN.out]; decide)]
           clear hdz
           have hrow := gRQ v5 (w.heap.size + 1) #[.int .i64 0, .int .i64 0, .string ⟨#[]⟩, .slice none 0 0, .slice none 0 0, .slice none 0 0]
           have HRF := hJQ (setRow_heap v5 (w.heap.size + 1) _ #[.int .i64 0, .int .i64 0, .string ⟨#[]⟩, .slice none 0 0, .slice none 0 0, .slice none 0 0] _ _ kRz)
           have HBF := hJQ (hbz5.trans (gUQ (B := w.heap.size) hrow (by have := hbz5.size; omega) (fun q hq => by have e2 : (w.heap.size + 1) = q := oJQ hq; omega)))
           have HCF : Hid (IsCon P (v5.setRow (w.heap.size + 1) #[.int .i64 0, .int .i64 0, .string ⟨#[]⟩, .slice none 0 0, .slice none 0 0, .slice none 0 0]) zeroD) := zero_con _ _
           clear hrow
           go_wp2_with (refine wpList_store_row rfl 28 _ _ rfl (w.heap.size + 1) _ rfl rfl 28 _ kRz cIQ rfl (all_one _ rfl) ?_)
           refine bodyPost_ret (v := .tuple #[.agg #[.int .i64 0, .int .i64 0, .string ⟨#[]⟩, .slice none 0 0, .slice none 0 0, .slice none 0 0], .int .i64 (-1)]) ?_ rfl ⟨zeroD, -1, rfl, HCF.out, HBF.out, fun _ => rfl, fun y m hh => by rw [HRN.out] at hh; cases hh⟩
           rw [results_cell_tmp (p := 4) (u := 5) (ty := 28) rfl]
           simp [asAddr, run_loadVar_row _ _ _ _ _ _ _ HRF.out Tryz.underlying28 rfl cIQ, Result.andThen]
          ·obtain ⟨t1, t2, t3⟩ := val_iff.1 HVN.out
           have hz5 := hbz5.size
           have hlR := hLQ kRz
           have hwr : IntKind.i64.wrap (((m' : Int) + 1) - 1) = m' := by rw [wrap_ok _ (by omega) (by omega)]; omega
           have HNx : Hid (Calls Tryz.prog 30 #[.agg #[.int .i64 xop, .int .i64 xn, .string xs, .slice xka xkn xkc, .slice xna xns.length xnc, .slice xa xl.length xcc], .int .i64 m'] v5 (RNOk (fun b => P b/\b ≠ w.heap.size + 1) (nrmN (F + 1) (.mk 12 n s (pK k) ns (l.map pC)) left) v5)) := by
            have hH : (nrmN (F + 1) (.mk 12 n s (pK k) ns (l.map pC)) left) = nrmN F (pC (ConD.mk xop xn xs xk (.slice xna xns.length xnc) xns (.slice xa xl.length xcc) xl)) m' := by
             rw [HHead.out]
             show (if valC T = true then nrmN F T m' else none) = _
             rw [← HPX.out, if_pos HVN.out]
            show Calls _ _ _ _ _
            rw [hH, ← HXV.out]
            refine IHF (ConD.mk xop xn xs xk (.slice xna xns.length xnc) xns (.slice xa xl.length xcc) xl) (fun b => P b/\b ≠ w.heap.size + 1) v5 m' (fun b hb => ⟨HPP.out b (by omega), by omega⟩) hdz t3 HBT9.out (by omega) ?_ t2 t1
            have h8 : (m' + 1) * 401<=left * 401 := Nat.mul_le_mul_right _ hml
            omega
           obtain ⟨x0, x1, x2, x3, x4, x5⟩ := cnQ kNz
           clear hdz kNz
           go_wp2_with fail
           refine HNx.out.mono ?_
           rintro e v6 ⟨dz, rz, rfl, hdz, hbz, hnoz, hyesz⟩
           obtain ⟨zop, zn, zs, zk, zns, zl, zka, zkn, zkc, zna, znc, za, zcc, rfl, hzk, _⟩ := cSQ hdz
           have HZV := hJQ (cVQ (op := zop) (n := zn) (s := zs) (nv := .slice zna zns.length znc) (lv := .slice za zl.length zcc) (ns := zns) (l := zl) hzk)
           rw [HZV.out]
           have kR6 := (hbz.block _ (hLQ kRz)).trans kRz
           have hbz6 := hbz5.trans (hbz.mono hbz5.size)
           have HNo := hJQ hnoz
           have HYes := hJQ hyesz
           clear HNx x0 x1 x2 x3 x4 x5 hnoz hyesz hzk hbz kRz hbz5
           have hrow := gRQ v6 (w.heap.size + 1) #[.int .i64 zop, .int .i64 zn, .string zs, .slice zka zkn zkc, .slice zna zns.length znc, .slice za zl.length zcc]
           have HRF := hJQ (setRow_heap v6 (w.heap.size + 1) _ #[.int .i64 zop, .int .i64 zn, .string zs, .slice zka zkn zkc, .slice zna zns.length znc, .slice za zl.length zcc] _ _ kR6)
           have HBF := hJQ (hbz6.trans (gUQ (B := w.heap.size) hrow (by have := hbz6.size; omega) (fun q hq => by have e2 : (w.heap.size + 1) = q := oJQ hq; omega)))
           have HCF : Hid (IsCon P (v6.setRow (w.heap.size + 1) #[.int .i64 zop, .int .i64 zn, .string zs, .slice zka zkn zkc, .slice zna zns.length znc, .slice za zl.length zcc]) (ConD.mk zop zn zs zk (.slice zna zns.length znc) zns (.slice za zl.length zcc) zl)) := (hdz.grown hrow (fun q hq hp => hp.2 (oJQ hq).symm)).mono (fun b hb _ => hb.1)
           clear hrow
           go_wp2_with (refine wpList_store_row rfl 28 _ _ rfl (w.heap.size + 1) _ rfl rfl 28 _ kR6 cIQ rfl (all_one _ rfl) ?_)
           refine bodyPost_ret (v := .tuple #[.agg #[.int .i64 zop, .int .i64 zn, .string zs, .slice zka zkn zkc, .slice zna zns.length znc, .slice za zl.length zcc], .int .i64 rz]) ?_ rfl ⟨(ConD.mk zop zn zs zk (.slice zna zns.length znc) zns (.slice za zl.length zcc) zl), rz, by rw [HZV.out], HCF.out, HBF.out, HNo.out, HYes.out⟩
           rw [results_cell_tmp (p := 4) (u := 5) (ty := 28) rfl]
           simp [asAddr, run_loadVar_row _ _ _ _ _ _ _ HRF.out Tryz.underlying28 rfl cIQ, Result.andThen]
         case t13 =>
          have lWB : (v1.drew.alloc (.cells #[.int .i64 gop, .int .i64 gn, .string gs, .slice gka gkn gkc, .slice gna gns.length gnc, .slice ga gl.length gcc] 28)).heap.size = v1.heap.size + 1 := by show (v1.drew.alloc _).heap.size = v1.drew.heap.size + 1; simp
          go_simp
          have hbE : Below w5.heap.size w5 ((v1.drew.alloc (.cells #[.int .i64 gop, .int .i64 gn, .string gs, .slice gka gkn gkc, .slice gna gns.length gnc, .slice ga gl.length gcc] 28)).alloc (.cells #[.int .i64 0, .int .i64 0, .string ⟨#[]⟩, .slice none 0 0, .slice none 0 0, .slice none 0 0] 28)) := hbB.alloc hbB.size _
          have kE := nHQ (v1.drew.alloc (.cells #[.int .i64 gop, .int .i64 gn, .string gs, .slice gka gkn gkc, .slice gna gns.length gnc, .slice ga gl.length gcc] 28)) (.cells #[.int .i64 0, .int .i64 0, .string ⟨#[]⟩, .slice none 0 0, .slice none 0 0, .slice none 0 0] 28)
          have lE := hbB.size
          refine hK.out _ _ (HSA.out _ hbE) (fun _ => ?_)
          clear hK K
          rw [lWB] at kE lE
          have kB2 : ((v1.drew.alloc (.cells #[.int .i64 gop, .int .i64 gn, .string gs, .slice gka gkn gkc, .slice gna gns.length gnc, .slice ga gl.length gcc] 28)).alloc (.cells #[.int .i64 0, .int .i64 0, .string ⟨#[]⟩, .slice none 0 0, .slice none 0 0, .slice none 0 0] 28)).heap[v1.drew.heap.size]? = _ := ((gAQ (v1.drew.alloc (.cells #[.int .i64 gop, .int .i64 gn, .string gs, .slice gka gkn gkc, .slice gna gns.length gnc, .slice ga gl.length gcc] 28)) (.cells #[.int .i64 0, .int .i64 0, .string ⟨#[]⟩, .slice none 0 0, .slice none 0 0, .slice none 0 0] 28)).block _ (hLQ kB) (by nofun)).trans kB
          have lE2 : ((v1.drew.alloc (.cells #[.int .i64 gop, .int .i64 gn, .string gs, .slice gka gkn gkc, .slice gna gns.length gnc, .slice ga gl.length gcc] 28)).alloc (.cells #[.int .i64 0, .int .i64 0, .string ⟨#[]⟩, .slice none 0 0, .slice none 0 0, .slice none 0 0] 28)).heap.size = v1.heap.size + 2 := by rw [show ((v1.drew.alloc (.cells #[.int .i64 gop, .int .i64 gn, .string gs, .slice gka gkn gkc, .slice gna gns.length gnc, .slice ga gl.length gcc] 28)).alloc (.cells #[.int .i64 0, .int .i64 0, .string ⟨#[]⟩, .slice none 0 0, .slice none 0 0, .slice none 0 0] 28)).heap.size = (v1.drew.alloc (.cells #[.int .i64 gop, .int .i64 gn, .string gs, .slice gka gkn gkc, .slice gna gns.length gnc, .slice ga gl.length gcc] 28)).heap.size + 1 by simp, lWB]
          refine rd1 12 (by kernel_rfl) (by rfl) (fun K hK => ?_)
          go_simp
          go_at_call 40
          refine (HSu.out ((v1.drew.alloc (.cells #[.int .i64 gop, .int .i64 gn, .string gs, .slice gka gkn gkc, .slice gna gns.length gnc, .slice ga gl.length gcc] 28)).alloc (.cells #[.int .i64 0, .int .i64 0, .string ⟨#[]⟩, .slice none 0 0, .slice none 0 0, .slice none 0 0] 28)) v1.drew.heap.size (v1.heap.size + 1) hbE lB (by show v1.heap.size ≠ v1.heap.size + 1; omega) (by omega) (Or.inl lE) kB2).mono ?_
          rintro e v2 ⟨⟨dd, rfl, hdd, hpd⟩, hbv2⟩
          obtain ⟨xop, xn, xs, xk, xns, xl, xka, xkn, xkc, xna, xnc, xa, xcc, rfl, hxk, _⟩ := cSQ hdd
          have HXV := hJQ (cVQ (op := xop) (n := xn) (s := xs) (nv := .slice xna xns.length xnc) (lv := .slice xa xl.length xcc) (ns := xns) (l := xl) hxk)
          rw [HXV.out]
          have hbC := hbE.trans (hbv2.mono hbE.size)
          have lC := hbv2.size
          refine hK.out _ _ (HSA.out _ hbC) (fun _ => ?_)
          clear hK K
          have kE2 := (hbv2.block _ (hLQ kE)).trans kE
          have hlN : v1.heap.size + 1 < (v2).heap.size := hLQ kE2
          have hrow9 := gRQ (v2) (v1.heap.size + 1) #[.int .i64 xop, .int .i64 xn, .string xs, .slice xka xkn xkc, .slice xna xns.length xnc, .slice xa xl.length xcc]
          have hb9 : Below w5.heap.size w5 ((v2).setRow (v1.heap.size + 1) #[.int .i64 xop, .int .i64 xn, .string xs, .slice xka xkn xkc, .slice xna xns.length xnc, .slice xa xl.length xcc]) := hbC.trans (gUQ hrow9 (by have := hbC.size; omega) (fun q hq => by have e2 : v1.heap.size + 1 = q := oJQ hq; omega))
          refine held_store 14 (by kernel_rfl) (by rfl) (by rfl) (by rfl) 28 _ _ (by rfl) (v1.heap.size + 1) #[.int .i64 xop, .int .i64 xn, .string xs, .slice xka xkn xkc, .slice xna xns.length xnc, .slice xa xl.length xcc] (by rfl) (by rfl) 28 _ kE2 cIQ rfl (all_one _ rfl) (HSA.out _ hb9) ?_
          refine wpAnyH_done (by kernel_rfl) ?_ _
          have HN9 := hJQ (setRow_heap (v2) (v1.heap.size + 1) _ #[.int .i64 xop, .int .i64 xn, .string xs, .slice xka xkn xkc, .slice xna xns.length xnc, .slice xa xl.length xcc] _ _ kE2)
          have HR9 := hJQ ((hb9.block _ (hLQ kR5)).trans kR5)
          have HBW9 := hJQ (hbw5.trans (hb9.mono hbw5.size))
          have HD9 := hJQ ((hdd.grown hrow9 (fun q hq hp => by have e2 : v1.heap.size + 1 = q := oJQ hq; exact hp.2 e2.symm)).mono (Q := (fun b => P b/\b ≠ w.heap.size + 1)) (fun b hb _ => hb.1))
          have HPX := hJQ hpd
          have HBT9 : Hid (bndC (pC (ConD.mk xop xn xs xk (.slice xna xns.length xnc) xns (.slice xa xl.length xcc) xl))) := by show bndC _; rw [hpd]; exact HBT.out
          generalize hVV : (v2).setRow (v1.heap.size + 1) #[.int .i64 xop, .int .i64 xn, .string xs, .slice xka xkn xkc, .slice xna xns.length xnc, .slice xa xl.length xcc] = V9 at *
          generalize hNN : v1.heap.size + 1 = N9 at *
          clear hVV hNN hrow9 hb9 hlN hbD hHeld S0 HSA HSu HBT hpd hxk hdd hbA1 HBA1 hbw6 kR6 kR5 hbB kB lB hbC lC hbE kE lE hbv2 kB2 kE2 lE2 lWB
          obtain ⟨x0, x1, x2, x3, x4, x5⟩ := cnQ HN9.out
          have HVn := rvalid_any _ (ConD.mk xop xn xs xk (.slice xna xns.length xnc) xns (.slice xa xl.length xcc) xl) V9 HD9.out HBT9.out
          rw [HXV.out] at HVn
          have HVn := hJQ HVn
          go_wp2_with fail
          refine HVn.out.mono ?_
          rintro e v5 ⟨rfl, hbv5⟩
          have hbw9 := HBW9.out
          have hbz5 := hbw9.trans (hbv5.mono hbw9.size)
          have kRz := (hbv5.block _ (hLQ HR9.out)).trans HR9.out
          have kNz := (hbv5.block _ (hLQ HN9.out)).trans HN9.out
          have hdz := iBQ HD9.out hbv5
          obtain ⟨vn, hvn⟩ : ∃ q9, valC (pC (ConD.mk xop xn xs xk (.slice xna xns.length xnc) xns (.slice xa xl.length xcc) xl)) = q9 := ⟨_, rfl⟩
          rw [hvn]
          have HVN := hJQ hvn
          clear HVn hvn x0 x1 x2 x3 x4 x5 hbv5
          cases vn
          ·have HRN : Hid ((nrmN (F + 1) (.mk 12 n s (pK k) ns (l.map pC)) left) = none) := by
            show _ = _
            rw [HHead.out]
            show (if valC T = true then nrmN F T m' else none) = none
            rw [← HPX.out, if_neg (by rw [HVN.out]; decide)]
           clear hdz
           have hrow := gRQ v5 (w.heap.size + 1) #[.int .i64 0, .int .i64 0, .string ⟨#[]⟩, .slice none 0 0, .slice none 0 0, .slice none 0 0]
           have HRF := hJQ (setRow_heap v5 (w.heap.size + 1) _ #[.int .i64 0, .int .i64 0, .string ⟨#[]⟩, .slice none 0 0, .slice none 0 0, .slice none 0 0] _ _ kRz)
           have HBF := hJQ (hbz5.trans (gUQ (B := w.heap.size) hrow (by have := hbz5.size; omega) (fun q hq => by have e2 : (w.heap.size + 1) = q := oJQ hq; omega)))
           have HCF : Hid (IsCon P (v5.setRow (w.heap.size + 1) #[.int .i64 0, .int .i64 0, .string ⟨#[]⟩, .slice none 0 0, .slice none 0 0, .slice none 0 0]) zeroD) := zero_con _ _
           clear hrow
           go_wp2_with (refine wpList_store_row rfl 28 _ _ rfl (w.heap.size + 1) _ rfl rfl 28 _ kRz cIQ rfl (all_one _ rfl) ?_)
           refine bodyPost_ret (v := .tuple #[.agg #[.int .i64 0, .int .i64 0, .string ⟨#[]⟩, .slice none 0 0, .slice none 0 0, .slice none 0 0], .int .i64 (-1)]) ?_ rfl ⟨zeroD, -1, rfl, HCF.out, HBF.out, fun _ => rfl, fun y m hh => by rw [HRN.out] at hh; cases hh⟩
           rw [results_cell_tmp (p := 4) (u := 5) (ty := 28) rfl]
           simp [asAddr, run_loadVar_row _ _ _ _ _ _ _ HRF.out Tryz.underlying28 rfl cIQ, Result.andThen]
          ·obtain ⟨t1, t2, t3⟩ := val_iff.1 HVN.out
           have hz5 := hbz5.size
           have hlR := hLQ kRz
           have hwr : IntKind.i64.wrap (((m' : Int) + 1) - 1) = m' := by rw [wrap_ok _ (by omega) (by omega)]; omega
           have HNx : Hid (Calls Tryz.prog 30 #[.agg #[.int .i64 xop, .int .i64 xn, .string xs, .slice xka xkn xkc, .slice xna xns.length xnc, .slice xa xl.length xcc], .int .i64 m'] v5 (RNOk (fun b => P b/\b ≠ w.heap.size + 1) (nrmN (F + 1) (.mk 12 n s (pK k) ns (l.map pC)) left) v5)) := by
            have hH : (nrmN (F + 1) (.mk 12 n s (pK k) ns (l.map pC)) left) = nrmN F (pC (ConD.mk xop xn xs xk (.slice xna xns.length xnc) xns (.slice xa xl.length xcc) xl)) m' := by
             rw [HHead.out]
             show (if valC T = true then nrmN F T m' else none) = _
             rw [← HPX.out, if_pos HVN.out]
            show Calls _ _ _ _ _
            rw [hH, ← HXV.out]
            refine IHF (ConD.mk xop xn xs xk (.slice xna xns.length xnc) xns (.slice xa xl.length xcc) xl) (fun b => P b/\b ≠ w.heap.size + 1) v5 m' (fun b hb => ⟨HPP.out b (by omega), by omega⟩) hdz t3 HBT9.out (by omega) ?_ t2 t1
            have h8 : (m' + 1) * 401<=left * 401 := Nat.mul_le_mul_right _ hml
            omega
           obtain ⟨x0, x1, x2, x3, x4, x5⟩ := cnQ kNz
           clear hdz kNz
           go_wp2_with fail
           refine HNx.out.mono ?_
           rintro e v6 ⟨dz, rz, rfl, hdz, hbz, hnoz, hyesz⟩
           obtain ⟨zop, zn, zs, zk, zns, zl, zka, zkn, zkc, zna, znc, za, zcc, rfl, hzk, _⟩ := cSQ hdz
           have HZV := hJQ (cVQ (op := zop) (n := zn) (s := zs) (nv := .slice zna zns.length znc) (lv := .slice za zl.length zcc) (ns := zns) (l := zl) hzk)
           rw [HZV.out]
           have kR6 := (hbz.block _ (hLQ kRz)).trans kRz
           have hbz6 := hbz5.trans (hbz.mono hbz5.size)
           have HNo := hJQ hnoz
           have HYes := hJQ hyesz
           clear HNx x0 x1 x2 x3 x4 x5 hnoz hyesz hzk hbz kRz hbz5
           have hrow := gRQ v6 (w.heap.size + 1) #[.int .i64 zop, .int .i64 zn, .string zs, .slice zka zkn zkc, .slice zna zns.length znc, .slice za zl.length zcc]
           have HRF := hJQ (setRow_heap v6 (w.heap.size + 1) _ #[.int .i64 zop, .int .i64 zn, .string zs, .slice zka zkn zkc, .slice zna zns.length znc, .slice za zl.length zcc] _ _ kR6)
           have HBF := hJQ (hbz6.trans (gUQ (B := w.heap.size) hrow (by have := hbz6.size; omega) (fun q hq => by have e2 : (w.heap.size + 1) = q := oJQ hq; omega)))
           have HCF : Hid (IsCon P (v6.setRow (w.heap.size + 1) #[.int .i64 zop, .int .i64 zn, .string zs, .slice zka zkn zkc, .slice zna zns.length znc, .slice za zl.length zcc]) (ConD.mk zop zn zs zk (.slice zna zns.length znc) zns (.slice za zl.length zcc) zl)) := (hdz.grown hrow (fun q hq hp => hp.2 (oJQ hq).symm)).mono (fun b hb _ => hb.1)
           clear hrow
           go_wp2_with (refine wpList_store_row rfl 28 _ _ rfl (w.heap.size + 1) _ rfl rfl 28 _ kR6 cIQ rfl (all_one _ rfl) ?_)
           refine bodyPost_ret (v := .tuple #[.agg #[.int .i64 zop, .int .i64 zn, .string zs, .slice zka zkn zkc, .slice zna zns.length znc, .slice za zl.length zcc], .int .i64 rz]) ?_ rfl ⟨(ConD.mk zop zn zs zk (.slice zna zns.length znc) zns (.slice za zl.length zcc) zl), rz, by rw [HZV.out], HCF.out, HBF.out, HNo.out, HYes.out⟩
           rw [results_cell_tmp (p := 4) (u := 5) (ty := 28) rfl]
           simp [asAddr, run_loadVar_row _ _ _ _ _ _ _ HRF.out Tryz.underlying28 rfl cIQ, Result.andThen]
        case s13 =>
         have lWE : (v1.drew.alloc (.cells #[.int .i64 0, .int .i64 0, .string ⟨#[]⟩, .slice none 0 0, .slice none 0 0, .slice none 0 0] 28)).heap.size = v1.heap.size + 1 := by show (v1.drew.alloc _).heap.size = v1.drew.heap.size + 1; simp
         go_simp
         have hbE : Below w5.heap.size w5 (v1.drew.alloc (.cells #[.int .i64 0, .int .i64 0, .string ⟨#[]⟩, .slice none 0 0, .slice none 0 0, .slice none 0 0] 28)) := hbD.alloc hbD.size _
         have kE := nHQ v1.drew (.cells #[.int .i64 0, .int .i64 0, .string ⟨#[]⟩, .slice none 0 0, .slice none 0 0, .slice none 0 0] 28)
         have lE := hbD.size
         refine hK.out _ _ (HSA.out _ hbE) (fun _ => ?_)
         clear hK K
         have lE : w5.heap.size<=v1.heap.size := lE
         refine rd1 11 (by kernel_rfl) (by rfl) (fun K hK => ?_)
         go_simp
         have hbB : Below w5.heap.size w5 ((v1.drew.alloc (.cells #[.int .i64 0, .int .i64 0, .string ⟨#[]⟩, .slice none 0 0, .slice none 0 0, .slice none 0 0] 28)).alloc (.cells #[.int .i64 gop, .int .i64 gn, .string gs, .slice gka gkn gkc, .slice gna gns.length gnc, .slice ga gl.length gcc] 28)) := hbE.alloc hbE.size _
         have kB := nHQ (v1.drew.alloc (.cells #[.int .i64 0, .int .i64 0, .string ⟨#[]⟩, .slice none 0 0, .slice none 0 0, .slice none 0 0] 28)) (.cells #[.int .i64 gop, .int .i64 gn, .string gs, .slice gka gkn gkc, .slice gna gns.length gnc, .slice ga gl.length gcc] 28)
         have lB := hbE.size
         refine hK.out _ _ (HSA.out _ hbB) (fun _ => ?_)
         clear hK K
         rw [lWE] at kB lB
         have kE1 := ((gAQ (v1.drew.alloc (.cells #[.int .i64 0, .int .i64 0, .string ⟨#[]⟩, .slice none 0 0, .slice none 0 0, .slice none 0 0] 28)) (.cells #[.int .i64 gop, .int .i64 gn, .string gs, .slice gka gkn gkc, .slice gna gns.length gnc, .slice ga gl.length gcc] 28)).block _ (hLQ kE) (by nofun)).trans kE
         have lB2 : ((v1.drew.alloc (.cells #[.int .i64 0, .int .i64 0, .string ⟨#[]⟩, .slice none 0 0, .slice none 0 0, .slice none 0 0] 28)).alloc (.cells #[.int .i64 gop, .int .i64 gn, .string gs, .slice gka gkn gkc, .slice gna gns.length gnc, .slice ga gl.length gcc] 28)).heap.size = v1.heap.size + 2 := by rw [show ((v1.drew.alloc (.cells #[.int .i64 0, .int .i64 0, .string ⟨#[]⟩, .slice none 0 0, .slice none 0 0, .slice none 0 0] 28)).alloc (.cells #[.int .i64 gop, .int .i64 gn, .string gs, .slice gka gkn gkc, .slice gna gns.length gnc, .slice ga gl.length gcc] 28)).heap.size = (v1.drew.alloc (.cells #[.int .i64 0, .int .i64 0, .string ⟨#[]⟩, .slice none 0 0, .slice none 0 0, .slice none 0 0] 28)).heap.size + 1 by simp, lWE]
         refine rd1 12 (by kernel_rfl) (by rfl) (fun K hK => ?_)
         go_simp
         go_at_call 40
         refine (HSu.out ((v1.drew.alloc (.cells #[.int .i64 0, .int .i64 0, .string ⟨#[]⟩, .slice none 0 0, .slice none 0 0, .slice none 0 0] 28)).alloc (.cells #[.int .i64 gop, .int .i64 gn, .string gs, .slice gka gkn gkc, .slice gna gns.length gnc, .slice ga gl.length gcc] 28)) (v1.heap.size + 1) v1.heap.size hbB lB (by omega) (by omega) (Or.inl lE) kB).mono ?_
         rintro e v2 ⟨⟨dd, rfl, hdd, hpd⟩, hbv2⟩
         obtain ⟨xop, xn, xs, xk, xns, xl, xka, xkn, xkc, xna, xnc, xa, xcc, rfl, hxk, _⟩ := cSQ hdd
         have HXV := hJQ (cVQ (op := xop) (n := xn) (s := xs) (nv := .slice xna xns.length xnc) (lv := .slice xa xl.length xcc) (ns := xns) (l := xl) hxk)
         rw [HXV.out]
         have hbC := hbB.trans (hbv2.mono hbB.size)
         have lC := hbv2.size
         refine hK.out _ _ (HSA.out _ hbC) (fun _ => ?_)
         clear hK K
         have kE2 : v2.heap[v1.heap.size]? = _ := (hbv2.block _ (hLQ kE1)).trans kE1
         have hlN : v1.heap.size < (v2).heap.size := hLQ kE2
         have hrow9 := gRQ (v2) (v1.heap.size) #[.int .i64 xop, .int .i64 xn, .string xs, .slice xka xkn xkc, .slice xna xns.length xnc, .slice xa xl.length xcc]
         have hb9 : Below w5.heap.size w5 ((v2).setRow (v1.heap.size) #[.int .i64 xop, .int .i64 xn, .string xs, .slice xka xkn xkc, .slice xna xns.length xnc, .slice xa xl.length xcc]) := hbC.trans (gUQ hrow9 (by have := hbC.size; omega) (fun q hq => by have e2 : v1.heap.size = q := oJQ hq; omega))
         refine held_store 14 (by kernel_rfl) (by rfl) (by rfl) (by rfl) 28 _ _ (by rfl) (v1.heap.size) #[.int .i64 xop, .int .i64 xn, .string xs, .slice xka xkn xkc, .slice xna xns.length xnc, .slice xa xl.length xcc] (by rfl) (by rfl) 28 _ kE2 cIQ rfl (all_one _ rfl) (HSA.out _ hb9) ?_
         refine wpAnyH_done (by kernel_rfl) ?_ _
         have HN9 := hJQ (setRow_heap (v2) (v1.heap.size) _ #[.int .i64 xop, .int .i64 xn, .string xs, .slice xka xkn xkc, .slice xna xns.length xnc, .slice xa xl.length xcc] _ _ kE2)
         have HR9 := hJQ ((hb9.block _ (hLQ kR5)).trans kR5)
         have HBW9 := hJQ (hbw5.trans (hb9.mono hbw5.size))
         have HD9 := hJQ ((hdd.grown hrow9 (fun q hq hp => by have e2 : v1.heap.size = q := oJQ hq; exact hp.2 e2.symm)).mono (Q := (fun b => P b/\b ≠ w.heap.size + 1)) (fun b hb _ => hb.1))
         have HPX := hJQ hpd
         have HBT9 : Hid (bndC (pC (ConD.mk xop xn xs xk (.slice xna xns.length xnc) xns (.slice xa xl.length xcc) xl))) := by show bndC _; rw [hpd]; exact HBT.out
         generalize hVV : (v2).setRow (v1.heap.size) #[.int .i64 xop, .int .i64 xn, .string xs, .slice xka xkn xkc, .slice xna xns.length xnc, .slice xa xl.length xcc] = V9 at *
         generalize hNN : v1.heap.size = N9 at *
         clear hVV hNN hrow9 hb9 hlN hbD hHeld S0 HSA HSu HBT hpd hxk hdd hbA1 HBA1 hbw6 kR6 kR5 hbB kB lB hbC lC hbE kE lE hbv2 kE1 kE2 lB2 lWE
         obtain ⟨x0, x1, x2, x3, x4, x5⟩ := cnQ HN9.out
         have HVn := rvalid_any _ (ConD.mk xop xn xs xk (.slice xna xns.length xnc) xns (.slice xa xl.length xcc) xl) V9 HD9.out HBT9.out
         rw [HXV.out] at HVn
         have HVn := hJQ HVn
         go_wp2_with fail
         refine HVn.out.mono ?_
         rintro e v5 ⟨rfl, hbv5⟩
         have hbw9 := HBW9.out
         have hbz5 := hbw9.trans (hbv5.mono hbw9.size)
         have kRz := (hbv5.block _ (hLQ HR9.out)).trans HR9.out
         have kNz := (hbv5.block _ (hLQ HN9.out)).trans HN9.out
         have hdz := iBQ HD9.out hbv5
         obtain ⟨vn, hvn⟩ : ∃ q9, valC (pC (ConD.mk xop xn xs xk (.slice xna xns.length xnc) xns (.slice xa xl.length xcc) xl)) = q9 := ⟨_, rfl⟩
         rw [hvn]
         have HVN := hJQ hvn
         clear HVn hvn x0 x1 x2 x3 x4 x5 hbv5
         cases vn
         ·have HRN : Hid ((nrmN (F + 1) (.mk 12 n s (pK k) ns (l.map pC)) left) = none) := by
           show _ = _
           rw [HHead.out]
           show (if valC T = true then nrmN F T m' else none) = none
           rw [← HPX.out, if_neg (by rw [HVN.out]; decide)]
          clear hdz
          have hrow := gRQ v5 (w.heap.size + 1) #[.int .i64 0, .int .i64 0, .string ⟨#[]⟩, .slice none 0 0, .slice none 0 0, .slice none 0 0]
          have HRF := hJQ (setRow_heap v5 (w.heap.size + 1) _ #[.int .i64 0, .int .i64 0, .string ⟨#[]⟩, .slice none 0 0, .slice none 0 0, .slice none 0 0] _ _ kRz)
          have HBF := hJQ (hbz5.trans (gUQ (B := w.heap.size) hrow (by have := hbz5.size; omega) (fun q hq => by have e2 : (w.heap.size + 1) = q := oJQ hq; omega)))
          have HCF : Hid (IsCon P (v5.setRow (w.heap.size + 1) #[.int .i64 0, .int .i64 0, .string ⟨#[]⟩, .slice none 0 0, .slice none 0 0, .slice none 0 0]) zeroD) := zero_con _ _
          clear hrow
          go_wp2_with (refine wpList_store_row rfl 28 _ _ rfl (w.heap.size + 1) _ rfl rfl 28 _ kRz cIQ rfl (all_one _ rfl) ?_)
          refine bodyPost_ret (v := .tuple #[.agg #[.int .i64 0, .int .i64 0, .string ⟨#[]⟩, .slice none 0 0, .slice none 0 0, .slice none 0 0], .int .i64 (-1)]) ?_ rfl ⟨zeroD, -1, rfl, HCF.out, HBF.out, fun _ => rfl, fun y m hh => by rw [HRN.out] at hh; cases hh⟩
          rw [results_cell_tmp (p := 4) (u := 5) (ty := 28) rfl]
          simp [asAddr, run_loadVar_row _ _ _ _ _ _ _ HRF.out Tryz.underlying28 rfl cIQ, Result.andThen]
         ·obtain ⟨t1, t2, t3⟩ := val_iff.1 HVN.out
          have hz5 := hbz5.size
          have hlR := hLQ kRz
          have hwr : IntKind.i64.wrap (((m' : Int) + 1) - 1) = m' := by rw [wrap_ok _ (by omega) (by omega)]; omega
          have HNx : Hid (Calls Tryz.prog 30 #[.agg #[.int .i64 xop, .int .i64 xn, .string xs, .slice xka xkn xkc, .slice xna xns.length xnc, .slice xa xl.length xcc], .int .i64 m'] v5 (RNOk (fun b => P b/\b ≠ w.heap.size + 1) (nrmN (F + 1) (.mk 12 n s (pK k) ns (l.map pC)) left) v5)) := by
           have hH : (nrmN (F + 1) (.mk 12 n s (pK k) ns (l.map pC)) left) = nrmN F (pC (ConD.mk xop xn xs xk (.slice xna xns.length xnc) xns (.slice xa xl.length xcc) xl)) m' := by
            rw [HHead.out]
            show (if valC T = true then nrmN F T m' else none) = _
            rw [← HPX.out, if_pos HVN.out]
           show Calls _ _ _ _ _
           rw [hH, ← HXV.out]
           refine IHF (ConD.mk xop xn xs xk (.slice xna xns.length xnc) xns (.slice xa xl.length xcc) xl) (fun b => P b/\b ≠ w.heap.size + 1) v5 m' (fun b hb => ⟨HPP.out b (by omega), by omega⟩) hdz t3 HBT9.out (by omega) ?_ t2 t1
           have h8 : (m' + 1) * 401<=left * 401 := Nat.mul_le_mul_right _ hml
           omega
          obtain ⟨x0, x1, x2, x3, x4, x5⟩ := cnQ kNz
          clear hdz kNz
          go_wp2_with fail
          refine HNx.out.mono ?_
          rintro e v6 ⟨dz, rz, rfl, hdz, hbz, hnoz, hyesz⟩
          obtain ⟨zop, zn, zs, zk, zns, zl, zka, zkn, zkc, zna, znc, za, zcc, rfl, hzk, _⟩ := cSQ hdz
          have HZV := hJQ (cVQ (op := zop) (n := zn) (s := zs) (nv := .slice zna zns.length znc) (lv := .slice za zl.length zcc) (ns := zns) (l := zl) hzk)
          rw [HZV.out]
          have kR6 := (hbz.block _ (hLQ kRz)).trans kRz
          have hbz6 := hbz5.trans (hbz.mono hbz5.size)
          have HNo := hJQ hnoz
          have HYes := hJQ hyesz
          clear HNx x0 x1 x2 x3 x4 x5 hnoz hyesz hzk hbz kRz hbz5
          have hrow := gRQ v6 (w.heap.size + 1) #[.int .i64 zop, .int .i64 zn, .string zs, .slice zka zkn zkc, .slice zna zns.length znc, .slice za zl.length zcc]
          have HRF := hJQ (setRow_heap v6 (w.heap.size + 1) _ #[.int .i64 zop, .int .i64 zn, .string zs, .slice zka zkn zkc, .slice zna zns.length znc, .slice za zl.length zcc] _ _ kR6)
          have HBF := hJQ (hbz6.trans (gUQ (B := w.heap.size) hrow (by have := hbz6.size; omega) (fun q hq => by have e2 : (w.heap.size + 1) = q := oJQ hq; omega)))
          have HCF : Hid (IsCon P (v6.setRow (w.heap.size + 1) #[.int .i64 zop, .int .i64 zn, .string zs, .slice zka zkn zkc, .slice zna zns.length znc, .slice za zl.length zcc]) (ConD.mk zop zn zs zk (.slice zna zns.length znc) zns (.slice za zl.length zcc) zl)) := (hdz.grown hrow (fun q hq hp => hp.2 (oJQ hq).symm)).mono (fun b hb _ => hb.1)
          clear hrow
          go_wp2_with (refine wpList_store_row rfl 28 _ _ rfl (w.heap.size + 1) _ rfl rfl 28 _ kR6 cIQ rfl (all_one _ rfl) ?_)
          refine bodyPost_ret (v := .tuple #[.agg #[.int .i64 zop, .int .i64 zn, .string zs, .slice zka zkn zkc, .slice zna zns.length znc, .slice za zl.length zcc], .int .i64 rz]) ?_ rfl ⟨(ConD.mk zop zn zs zk (.slice zna zns.length znc) zns (.slice za zl.length zcc) zl), rz, by rw [HZV.out], HCF.out, HBF.out, HNo.out, HYes.out⟩
          rw [results_cell_tmp (p := 4) (u := 5) (ty := 28) rfl]
          simp [asAddr, run_loadVar_row _ _ _ _ _ _ _ HRF.out Tryz.underlying28 rfl cIQ, Result.andThen]
     ·have q11' : (fd.op == 11) = false := nEQ q11
      have HNB : Hid (¬ ((pC (ConD.mk 12 n s k (.slice na ns.length nc) ns (.slice (some ⟨pb, pof, none⟩) ds.length oc) ds)).op = 12/\((pC (ConD.mk 12 n s k (.slice na ns.length nc) ns (.slice (some ⟨pb, pof, none⟩) ds.length oc) ds)).l.getD 0 default).op = 11)) := fun hh => by
       have h2 := hh.2
       rw [HPO.out, hds] at h2
       have h2 : (pC fd).op = 11 := h2
       rw [ConD.op_pure] at h2
       exact q11 h2
      clear hfc hgc hff hfg hbf hbg u1 u2 u3 u4 u5 v0 v1 v2 v3 v4 v5 hds q11 HBO9
      have HEta := reta_any _ (ConD.mk 12 n s k (.slice na ns.length nc) ns (.slice (some ⟨pb, pof, none⟩) ds.length oc) ds) w5 HO5.out HRes0.out.2.1 (by omega) (by omega)
      rw [HVO.out] at HEta
      have HEta := hJQ HEta
      go_upto_region 21 with fail
      go_wp2_with fail
      refine HEta.out.mono ?_
      rintro e w6 ⟨rfl, hb6⟩
      have hbw6 := hbw5.trans (hb6.mono hbw5.size)
      have kO6 := (hb6.block _ (hLQ kO5)).trans kO5
      have kR6 := (hb6.block _ (hLQ kR5)).trans kR5
      have HO6 := hJQ (iBQ HO5.out hb6)
      obtain ⟨be, hbe⟩ : ∃ q9, etaC (pC (ConD.mk 12 n s k (.slice na ns.length nc) ns (.slice (some ⟨pb, pof, none⟩) ds.length oc) ds)) = q9 := ⟨_, rfl⟩
      rw [hbe]
      have HBE := hJQ hbe
      clear HEta hbe hb6 x0 x1 x2 x3 x4 x5 u0
      cases be
      ·have HHd : Hid ((nrmN (F + 1) (.mk 12 n s (pK k) ns (l.map pC)) left) = some (pC (ConD.mk 12 n s k (.slice na ns.length nc) ns (.slice (some ⟨pb, pof, none⟩) ds.length oc) ds), m)) := by
        show _ = _
        rw [HRes0.out.1]
        unfold hNQ
        rw [if_neg (by rw [HSm.out]; decide), if_neg (fun hh => HNB.out hh), if_neg (by rw [HBE.out]; decide)]
       have HDV := HVO
       have hO6 := HO6.out
       obtain ⟨x0, x1, x2, x3, x4, x5⟩ := cnQ kO6
       have hrow := gRQ w6 (w.heap.size + 1) #[.int .i64 12, .int .i64 n, .string s, .slice ka kn kc, .slice na ns.length nc, .slice (some ⟨pb, pof, none⟩) ds.length oc]
       have HRF := hJQ (setRow_heap w6 (w.heap.size + 1) _ #[.int .i64 12, .int .i64 n, .string s, .slice ka kn kc, .slice na ns.length nc, .slice (some ⟨pb, pof, none⟩) ds.length oc] _ _ kR6)
       have HBF := hJQ (hbw6.trans (gUQ (B := w.heap.size) hrow (by have := hbw6.size; omega) (fun q hq => by have e2 : (w.heap.size + 1) = q := oJQ hq; omega)))
       have HCF : Hid (IsCon P (w6.setRow (w.heap.size + 1) #[.int .i64 12, .int .i64 n, .string s, .slice ka kn kc, .slice na ns.length nc, .slice (some ⟨pb, pof, none⟩) ds.length oc]) (ConD.mk 12 n s k (.slice na ns.length nc) ns (.slice (some ⟨pb, pof, none⟩) ds.length oc) ds)) := (hO6.grown hrow (fun q hq hp => hp.1.2 (oJQ hq).symm)).mono (fun b hb _ => hb.1.1)
       clear hrow
       go_wp2_with (refine wpList_store_row rfl 28 _ _ rfl (w.heap.size + 1) _ rfl rfl 28 _ kR6 cIQ rfl (all_one _ rfl) ?_)
       refine bodyPost_ret (v := .tuple #[.agg #[.int .i64 12, .int .i64 n, .string s, .slice ka kn kc, .slice na ns.length nc, .slice (some ⟨pb, pof, none⟩) ds.length oc], .int .i64 (m : Int)]) ?_ rfl ⟨(ConD.mk 12 n s k (.slice na ns.length nc) ns (.slice (some ⟨pb, pof, none⟩) ds.length oc) ds), (m : Int), by rw [HDV.out], HCF.out, HBF.out, (fun hh => by rw [HHd.out] at hh; cases hh), (fun y9 m9 hh => by
        rw [HHd.out] at hh
        obtain ⟨rfl, rfl⟩ := Prod.mk.inj (oJQ hh)
        exact ⟨rfl, rfl⟩)⟩
       rw [results_cell_tmp (p := 4) (u := 5) (ty := 28) rfl]
       simp [asAddr, run_loadVar_row _ _ _ _ _ _ _ HRF.out Tryz.underlying28 rfl cIQ, Result.andThen]
      ·exfalso
       obtain ⟨n1, s1, k1, ns1, n2, s2, k2, ns2, f0, a0, hsh, _⟩ := eta_shape cstB labsB HRes0.out.2.1 HBE.out
       rw [HPO.out] at hsh
       exact absurd (show (12 : Int) = 11 from congrArg Cn.op hsh) (by decide)
    ·have q12' : (op == 12) = false := nEQ q12
     have HNB : Hid (¬ ((pC (ConD.mk op n s k (.slice na ns.length nc) ns (.slice oa ds.length oc) ds)).op = 12/\((pC (ConD.mk op n s k (.slice na ns.length nc) ns (.slice oa ds.length oc) ds)).l.getD 0 default).op = 11)) := fun hh => by
      have h2 := hh.1
      rw [HPO.out] at h2
      exact q12 h2
     obtain ⟨x0, x1, x2, x3, x4, x5⟩ := cnQ kO5
     clear q12
     have HEta := reta_any _ (ConD.mk op n s k (.slice na ns.length nc) ns (.slice oa ds.length oc) ds) w5 HO5.out HRes0.out.2.1 (by omega) (by omega)
     rw [HVO.out] at HEta
     have HEta := hJQ HEta
     go_upto_region 21 with fail
     go_wp2_with fail
     refine HEta.out.mono ?_
     rintro e w6 ⟨rfl, hb6⟩
     have hbw6 := hbw5.trans (hb6.mono hbw5.size)
     have kO6 := (hb6.block _ (hLQ kO5)).trans kO5
     have kR6 := (hb6.block _ (hLQ kR5)).trans kR5
     have HO6 := hJQ (iBQ HO5.out hb6)
     obtain ⟨be, hbe⟩ : ∃ q9, etaC (pC (ConD.mk op n s k (.slice na ns.length nc) ns (.slice oa ds.length oc) ds)) = q9 := ⟨_, rfl⟩
     rw [hbe]
     have HBE := hJQ hbe
     clear HEta hbe hb6 x0 x1 x2 x3 x4 x5
     cases be
     ·have HHd : Hid ((nrmN (F + 1) (.mk op n s (pK k) ns (l.map pC)) left) = some (pC (ConD.mk op n s k (.slice na ns.length nc) ns (.slice oa ds.length oc) ds), m)) := by
       show _ = _
       rw [HRes0.out.1]
       unfold hNQ
       rw [if_neg (by rw [HSm.out]; decide), if_neg (fun hh => HNB.out hh), if_neg (by rw [HBE.out]; decide)]
      have HDV := HVO
      have hO6 := HO6.out
      obtain ⟨x0, x1, x2, x3, x4, x5⟩ := cnQ kO6
      have hrow := gRQ w6 (w.heap.size + 1) #[.int .i64 op, .int .i64 n, .string s, .slice ka kn kc, .slice na ns.length nc, .slice oa ds.length oc]
      have HRF := hJQ (setRow_heap w6 (w.heap.size + 1) _ #[.int .i64 op, .int .i64 n, .string s, .slice ka kn kc, .slice na ns.length nc, .slice oa ds.length oc] _ _ kR6)
      have HBF := hJQ (hbw6.trans (gUQ (B := w.heap.size) hrow (by have := hbw6.size; omega) (fun q hq => by have e2 : (w.heap.size + 1) = q := oJQ hq; omega)))
      have HCF : Hid (IsCon P (w6.setRow (w.heap.size + 1) #[.int .i64 op, .int .i64 n, .string s, .slice ka kn kc, .slice na ns.length nc, .slice oa ds.length oc]) (ConD.mk op n s k (.slice na ns.length nc) ns (.slice oa ds.length oc) ds)) := (hO6.grown hrow (fun q hq hp => hp.1.2 (oJQ hq).symm)).mono (fun b hb _ => hb.1.1)
      clear hrow
      go_wp2_with (refine wpList_store_row rfl 28 _ _ rfl (w.heap.size + 1) _ rfl rfl 28 _ kR6 cIQ rfl (all_one _ rfl) ?_)
      refine bodyPost_ret (v := .tuple #[.agg #[.int .i64 op, .int .i64 n, .string s, .slice ka kn kc, .slice na ns.length nc, .slice oa ds.length oc], .int .i64 (m : Int)]) ?_ rfl ⟨(ConD.mk op n s k (.slice na ns.length nc) ns (.slice oa ds.length oc) ds), (m : Int), by rw [HDV.out], HCF.out, HBF.out, (fun hh => by rw [HHd.out] at hh; cases hh), (fun y9 m9 hh => by
       rw [HHd.out] at hh
       obtain ⟨rfl, rfl⟩ := Prod.mk.inj (oJQ hh)
       exact ⟨rfl, rfl⟩)⟩
      rw [results_cell_tmp (p := 4) (u := 5) (ty := 28) rfl]
      simp [asAddr, run_loadVar_row _ _ _ _ _ _ _ HRF.out Tryz.underlying28 rfl cIQ, Result.andThen]
     ·obtain ⟨n1, s1, k1, ns1, n2, s2, k2, ns2, f0, a0, hsh, _, _, hoc, hff0⟩ := eta_shape cstB labsB HRes0.out.2.1 HBE.out
      have hsh2 := hsh
      rw [HPO.out] at hsh2
      obtain ⟨yd, hds, hyd⟩ := map_one ds (congrArg Cn.l hsh2)
      obtain ⟨yop, yn, ys, yk, ynv, yns, ylv, yl⟩ := yd
      rw [pMQ] at hyd
      obtain ⟨fd, gd, hyl, hfd⟩ := map_two yl (congrArg Cn.l hyd)
      have hrow1 : RowP (fun b => (P b/\b ≠ w.heap.size + 1)/\b ≠ w.heap.size + 2) w6 (.slice oa [ConD.mk yop yn ys yk ynv yns ylv yl].length oc) [ConD.mk yop yn ys yk ynv yns ylv yl].length (cCQ [ConD.mk yop yn ys yk ynv yns ylv yl]) := by have := HO6.out.parts.row; rw [hds] at this; exact this
      obtain ⟨pb, pof, hoa, ⟨hPb, hPl⟩, _, _, _, _, _, u5q⟩ := part_0 hrow1
      subst hoa
      have hyc9 : IsCon (fun b => (P b/\b ≠ w.heap.size + 1)/\b ≠ w.heap.size + 2) w6 (ConD.mk yop yn ys yk ynv yns ylv yl) := HO6.out.parts.all _ (by rw [hds]; simp)
      have hrow2 := hyc9.parts.row
      obtain ⟨ya9, yc9, rfl, _⟩ := rSQ hrow2
      have u5 : w6.cell? ⟨pb, pof + 5, none⟩ = some (.slice ya9 yl.length yc9) := u5q
      clear u5q
      have hrow3 : RowP (fun b => (P b/\b ≠ w.heap.size + 1)/\b ≠ w.heap.size + 2) w6 (.slice ya9 [fd, gd].length yc9) [fd, gd].length (cCQ [fd, gd]) := by rw [hyl] at hrow2; exact hrow2
      obtain ⟨pb2, pof2, hya, ⟨hPb2, hPl2⟩, v0, v1, v2, v3, v4, v5⟩ := part_0 hrow3
      subst hya
      have hfc : IsCon (fun b => (P b/\b ≠ w.heap.size + 1)/\b ≠ w.heap.size + 2) w6 fd := hyc9.parts.all fd (by rw [hyl]; simp)
      have hl0 : (0 : Int) < ds.length := by rw [hds]; simp
      have hl1 : (0 : Int) < yl.length := by rw [hyl]; simp
      have hffd : frmC (pC fd) = true := by rw [hfd]; exact hff0
      have hszf : sizeC (pC fd)<=20000/\dCQ (pC fd)<=400 := by
       have h7 := pSQ f0 12 n2 s2 k2 ns2 [f0, a0] (by simp)
       have h8 := pSQ (.mk 12 n2 s2 k2 ns2 [f0, a0]) 11 n1 s1 k1 ns1 [.mk 12 n2 s2 k2 ns2 [f0, a0]] (by simp)
       rw [← hsh] at h8
       rw [hfd]
       exact ⟨by omega, by omega⟩
      have HHd : Hid ((nrmN (F + 1) (.mk op n s (pK k) ns (l.map pC)) left) = some (shiftC (-1) 0 (pC fd), m)) := by
       show _ = _
       have hb1 := HBE.out
       have hb2 := HSm.out
       rw [HRes0.out.1]
       rw [hsh] at hb1 hb2 ⊢
       unfold hNQ
       rw [if_neg (by rw [hb2]; decide), if_neg (fun hh => by have h7 : (11 : Int) = 12 := hh.1; omega), if_pos hb1, hfd]
       rfl
      obtain ⟨fop, fn, fs, fk, fns, fl, fka, fkn, fkc, fna, fnc, fa, fcc, rfl, hfk, _⟩ := cSQ hfc
      simp only [ConD.op, ConD.n, ConD.s, ConD.k, ConD.nv, ConD.lv, hfk] at v0 v1 v2 v3 v4 v5
      have HSh : Hid (Calls Tryz.prog 60 #[.agg #[.int .i64 fop, .int .i64 fn, .string fs, .slice fka fkn fkc, .slice fna fns.length fnc, .slice fa fl.length fcc], .int .i64 (-1), .int .i64 0] w6 fun e w' => ConOut (fun b => (P b/\b ≠ w.heap.size + 1)/\b ≠ w.heap.size + 2) (shiftC (-1) 0 (pC (ConD.mk fop fn fs fk (.slice fna fns.length fnc) fns (.slice fa fl.length fcc) fl))) e w'/\Below w6.heap.size w6 w') := by
       have hz6 := hbw6.size
       have h1 := hLQ kO6
       have := rshift_any (ConD.mk fop fn fs fk (.slice fna fns.length fnc) fns (.slice fa fl.length fcc) fl) (fun b => (P b/\b ≠ w.heap.size + 1)/\b ≠ w.heap.size + 2) w6 (-1) 0 (fun b hb => ⟨⟨HPP.out b (by omega), by omega⟩, by omega⟩) hfc hffd (by omega) (by omega) (by omega) (by omega)
       rw [cVQ hfk] at this
       exact this
      obtain ⟨x0, x1, x2, x3, x4, x5⟩ := cnQ kO6
      clear hrow1 hrow2 hrow3 hyc9 hfc hfk hffd hszf hoc hff0 hsh hsh2 hds hyd hyl hfd HO5 HO6 HVO HPO HVB HSm HBE HNB HRes0 kO5 kR5 kO6
      go_wp2_with fail
      refine HSh.out.mono ?_
      rintro e w7 ⟨⟨dd, rfl, hdd, hpd⟩, hb7⟩
      obtain ⟨xop, xn, xs, xk, xns, xl, xka, xkn, xkc, xna, xnc, xa, xcc, rfl, hxk, _⟩ := cSQ hdd
      have HDV := hJQ (cVQ (op := xop) (n := xn) (s := xs) (nv := .slice xna xns.length xnc) (lv := .slice xa xl.length xcc) (ns := xns) (l := xl) hxk)
      rw [HDV.out]
      have kR7 := (hb7.block _ (hLQ kR6)).trans kR6
      have hbw7 := hbw6.trans (hb7.mono hbw6.size)
      have HHe : Hid ((nrmN (F + 1) (.mk op n s (pK k) ns (l.map pC)) left) = some (pC (ConD.mk xop xn xs xk (.slice xna xns.length xnc) xns (.slice xa xl.length xcc) xl), m)) := by show _ = _; rw [hpd]; exact HHd.out
      clear HSh x0 x1 x2 x3 x4 x5 u5 v0 v1 v2 v3 v4 v5 hl0 hl1 hpd hxk kR6 hb7 HHd
      have hrow := gRQ w7 (w.heap.size + 1) #[.int .i64 xop, .int .i64 xn, .string xs, .slice xka xkn xkc, .slice xna xns.length xnc, .slice xa xl.length xcc]
      have HRF := hJQ (setRow_heap w7 (w.heap.size + 1) _ #[.int .i64 xop, .int .i64 xn, .string xs, .slice xka xkn xkc, .slice xna xns.length xnc, .slice xa xl.length xcc] _ _ kR7)
      have HBF := hJQ (hbw7.trans (gUQ (B := w.heap.size) hrow (by have := hbw7.size; omega) (fun q hq => by have e2 : (w.heap.size + 1) = q := oJQ hq; omega)))
      have HCF : Hid (IsCon P (w7.setRow (w.heap.size + 1) #[.int .i64 xop, .int .i64 xn, .string xs, .slice xka xkn xkc, .slice xna xns.length xnc, .slice xa xl.length xcc]) (ConD.mk xop xn xs xk (.slice xna xns.length xnc) xns (.slice xa xl.length xcc) xl)) := (hdd.grown hrow (fun q hq hp => hp.1.2 (oJQ hq).symm)).mono (fun b hb _ => hb.1.1)
      clear hrow
      go_wp2_with (refine wpList_store_row rfl 28 _ _ rfl (w.heap.size + 1) _ rfl rfl 28 _ kR7 cIQ rfl (all_one _ rfl) ?_)
      refine bodyPost_ret (v := .tuple #[.agg #[.int .i64 xop, .int .i64 xn, .string xs, .slice xka xkn xkc, .slice xna xns.length xnc, .slice xa xl.length xcc], .int .i64 (m : Int)]) ?_ rfl ⟨(ConD.mk xop xn xs xk (.slice xna xns.length xnc) xns (.slice xa xl.length xcc) xl), (m : Int), by rw [HDV.out], HCF.out, HBF.out, (fun hh => by rw [HHe.out] at hh; cases hh), (fun y9 m9 hh => by
       rw [HHe.out] at hh
       obtain ⟨rfl, rfl⟩ := Prod.mk.inj (oJQ hh)
       exact ⟨rfl, rfl⟩)⟩
      rw [results_cell_tmp (p := 4) (u := 5) (ty := 28) rfl]
      simp [asAddr, run_loadVar_row _ _ _ _ _ _ _ HRF.out Tryz.underlying28 rfl cIQ, Result.andThen]
end Go.Proofs.YtkiffgdinmpljaaGreatDoor
