/- all and Subst. Expanded by mac.py. -/
import Derived.Test.YtkiffgdinmpljaaGreatDoorF20
set_option linter.unusedVariables false
set_option linter.unusedSimpArgs false
namespace Go.Proofs.YtkiffgdinmpljaaGreatDoor
open Go Go.RowKit
set_option maxHeartbeats 8000000
set_option maxRecDepth 100000
theorem all1_any (P : Nat->Prop) (x : ConD) (w : World) (hE : EnvN w) (h : IsCon P w x) (hb : bndC (pC x)) (hsz : sizeC (pC x)<=1000000000) :
 Calls Tryz.prog 108 (#[conV x] ++ #[]) w fun e w' => e = .returned (.bool (!valC (pC x)))/\Below w.heap.size w w' := by
 obtain ⟨op, n, s, k, nv, ns, lv, l⟩ := x
 obtain ⟨ka, kc, kn, hks⟩ := iKQ h.parts.kind
 obtain ⟨na, nc, rfl, _⟩ := rSQ h.parts.names
 obtain ⟨a, c, rfl, _⟩ := rSQ h.parts.row
 rw [cVQ hks]
 have hll : l.length<=9223372036854775807 := by have h1 := h.parts.llen; have : maxLen = 9223372036854775807 := (by decide); omega
 have hnn : ns.length<=9223372036854775807 := by have h1 := h.parts.nlen; have : maxLen = 9223372036854775807 := (by decide); omega
 have hb0 : Below w.heap.size w (w.alloc (.cells #[.int .i64 op, .int .i64 n, .string s, .slice ka kn kc, .slice na ns.length nc, .slice a l.length c] 28)) := (Below.refl _ _).alloc (Nat.le_refl _) _
 have gC := nHQ w (.cells #[.int .i64 op, .int .i64 n, .string s, .slice ka kn kc, .slice na ns.length nc, .slice a l.length c] 28)
 have hsz0 : (w.alloc (.cells #[.int .i64 op, .int .i64 n, .string s, .slice ka kn kc, .slice na ns.length nc, .slice a l.length c] 28)).heap.size = w.heap.size + 1 := by simp
 obtain ⟨c0, c1, c2, c3, c4, c5⟩ := cnQ gC
 have HP := hJQ (iBQ h hb0).parts
 have HC0 := hJQ (iBQ h hb0)
 have HC := hJQ (valid_any P _ _ (hE.below hb0) HC0.out hb hsz)
 rw [cVQ hks] at HC
 clear h hks HP HC0 hb hsz0 gC hE
 generalize pC (.mk op n s k (.slice na ns.length nc) ns (.slice a l.length c) l) = x at *
 go_enter Tryz.func108, Tryz.ntmps108
 go_wp2_with fail
 refine HC.out.mono ?_
 rintro e w2 ⟨rfl, hb2⟩
 have hbz := hb0.trans (hb2.mono hb0.size)
 clear HC
 go_wp2_with fail
 go_ret
 exact ⟨rfl, hbz⟩
theorem all_yes (P : Nat->Prop) (ga : Option Addr) (gc : Nat) (gl : List ConD) (w : World) (hE : EnvN w) (h : RowP P w (.slice ga gl.length gc) gl.length (cCQ gl)) (hm : gl.length<=9223372036854775807) (ha : ∀ y ∈ gl, IsCon P w y) (hV : ∀ y ∈ gl.map pC, valC y = true/\bndC y) :
 Calls Tryz.prog 65 #[.slice ga gl.length gc] w fun e w' => e = .returned (.bool true)/\Below w.heap.size w w' := by
 have H : Calls Tryz.prog 22 #[.slice ga gl.length gc, .func (.func 108) #[] #[]] w fun e w' => e = .returned (.bool false)/\Below w.heap.size w w' := by
  refine (containsC_any 108 #[] (enters_of Tryz.func108 (by kernel_rfl) rfl) P _ gl (fun j V => Below w.heap.size w V) (fun j V => False) w (Below.refl _ _) (fun j V hI => Kept.of_below hI) (fun j V hj hI => ?_) h hm ha).mono ?_
  ·have hmem := mem_getD gl j hj
   have hv := hV _ (List.mem_map_of_mem (f := pC) hmem)
   refine (all1_any P (gl.getD j default) V (hE.below hI) (iBQ (ha _ hmem) hI) hv.2 (by have := (val_iff.1 hv.1).1; omega)).mono fun e V' ⟨he, hb⟩ => ⟨_, he, fun hb1 => ?_, fun hb1 => hI.trans (hb.mono hI.size)⟩
   rw [hv.1] at hb1; cases hb1
  ·rintro e w' ⟨b, rfl, hy, hn⟩
   cases b
   ·exact ⟨rfl, hn rfl⟩
   ·obtain ⟨j, hj, hf⟩ := hy rfl; exact hf.elim
 have H := hJQ H
 clear h ha hV hE
 go_enter Tryz.func65, Tryz.ntmps65
 go_wp2_with fail
 refine H.out.mono ?_
 rintro e w2 ⟨rfl, hb2⟩
 clear H
 go_wp2_with fail
 go_ret
 exact ⟨rfl, hb2⟩
theorem subst_any (P : Nat->Prop) (x : ConD) (ga : Option Addr) (gc : Nat) (gl : List ConD) (w : World) (hE : EnvN w) (h : IsCon P w x) (hv : valC (pC x) = true) (hb : bndC (pC x)) (hR : RowP P w (.slice ga gl.length gc) gl.length (cCQ gl)) (hA : ∀ y ∈ gl, IsCon P w y) (hV : ∀ y ∈ gl.map pC, valC y = true/\bndC y) (hlen : gl.length<=1000) (hbT : bndC (sC9 (gl.map pC) 0 (pC x))) :
 Calls Tryz.prog 36 #[conV x, .slice ga gl.length gc] w (ReplOk (sC9 (gl.map pC) 0 (pC x)) w) := by
 obtain ⟨hv1, hv2, hv3⟩ := val_iff.1 hv
 have hVf : ∀ y ∈ gl.map pC, frmC y = true/\sizeC y<=20000 := fun y hy => ⟨(val_iff.1 (hV y hy).1).2.2, (val_iff.1 (hV y hy).1).1⟩
 have hTe : rebC (leafT (gl.map pC)) 0 (pC x) = sC9 (gl.map pC) 0 (pC x) := reb_subst _ (fun y hy => (hVf y hy).1) _ 0 hv3
 obtain ⟨op, n, s, k, nv, ns, lv, l⟩ := x
 obtain ⟨ka, kc, kn, hks⟩ := iKQ h.parts.kind
 obtain ⟨na, nc, rfl, _⟩ := rSQ h.parts.names
 obtain ⟨a, c, rfl, _⟩ := rSQ h.parts.row
 rw [cVQ hks]
 have hll : l.length<=9223372036854775807 := by have h1 := h.parts.llen; have : maxLen = 9223372036854775807 := (by decide); omega
 have hnn : ns.length<=9223372036854775807 := by have h1 := h.parts.nlen; have : maxLen = 9223372036854775807 := (by decide); omega
 have hb0 : Below w.heap.size w (w.alloc (.cells #[.int .i64 op, .int .i64 n, .string s, .slice ka kn kc, .slice na ns.length nc, .slice a l.length c] 28)) := (Below.refl _ _).alloc (Nat.le_refl _) _
 have gC := nHQ w (.cells #[.int .i64 op, .int .i64 n, .string s, .slice ka kn kc, .slice na ns.length nc, .slice a l.length c] 28)
 have hsz0 : (w.alloc (.cells #[.int .i64 op, .int .i64 n, .string s, .slice ka kn kc, .slice na ns.length nc, .slice a l.length c] 28)).heap.size = w.heap.size + 1 := by simp
 obtain ⟨c0, c1, c2, c3, c4, c5⟩ := cnQ gC
 have HP := hJQ (iBQ h hb0).parts
 have HC0 := hJQ (iBQ h hb0)
 have hPW := cVQ (op := op) (n := n) (s := s) (nv := .slice na ns.length nc) (lv := .slice a l.length c) (ns := ns) (l := l) hks
 have hg1 := gAQ (w.alloc (.cells #[.int .i64 op, .int .i64 n, .string s, .slice ka kn kc, .slice na ns.length nc, .slice a l.length c] 28)) (.cells #[.slice ga gl.length gc] 26)
 have hg2 := gAQ ((w.alloc (.cells #[.int .i64 op, .int .i64 n, .string s, .slice ka kn kc, .slice na ns.length nc, .slice a l.length c] 28)).alloc (.cells #[.slice ga gl.length gc] 26)) (.cells #[.int .i64 0, .int .i64 0, .string ⟨#[]⟩, .slice none 0 0, .slice none 0 0, .slice none 0 0] 28)
 have s2 : ((w.alloc (.cells #[.int .i64 op, .int .i64 n, .string s, .slice ka kn kc, .slice na ns.length nc, .slice a l.length c] 28)).alloc (.cells #[.slice ga gl.length gc] 26)).heap.size = w.heap.size + 1 + 1 := by simp
 have kL0 : ((w.alloc (.cells #[.int .i64 op, .int .i64 n, .string s, .slice ka kn kc, .slice na ns.length nc, .slice a l.length c] 28)).alloc (.cells #[.slice ga gl.length gc] 26)).heap[w.heap.size + 1]? = _ := (congrArg _ hsz0.symm).trans (nHQ (w.alloc (.cells #[.int .i64 op, .int .i64 n, .string s, .slice ka kn kc, .slice na ns.length nc, .slice a l.length c] 28)) (.cells #[.slice ga gl.length gc] 26))
 have kL := (hg2.block (w.heap.size + 1) (by omega) (by nofun)).trans kL0
 have kB := (hg2.block w.heap.size (by omega) (by nofun)).trans ((hg1.block w.heap.size (by omega) (by nofun)).trans gC)
 have kR : (((w.alloc (.cells #[.int .i64 op, .int .i64 n, .string s, .slice ka kn kc, .slice na ns.length nc, .slice a l.length c] 28)).alloc (.cells #[.slice ga gl.length gc] 26)).alloc (.cells #[.int .i64 0, .int .i64 0, .string ⟨#[]⟩, .slice none 0 0, .slice none 0 0, .slice none 0 0] 28)).heap[w.heap.size + 1 + 1]? = _ := (congrArg _ s2.symm).trans (nHQ ((w.alloc (.cells #[.int .i64 op, .int .i64 n, .string s, .slice ka kn kc, .slice na ns.length nc, .slice a l.length c] 28)).alloc (.cells #[.slice ga gl.length gc] 26)) (.cells #[.int .i64 0, .int .i64 0, .string ⟨#[]⟩, .slice none 0 0, .slice none 0 0, .slice none 0 0] 28))
 have hgW := gBQ (gBQ (gAQ w (.cells #[.int .i64 op, .int .i64 n, .string s, .slice ka kn kc, .slice na ns.length nc, .slice a l.length c] 28)) hg1) hg2
 have hszW : (((w.alloc (.cells #[.int .i64 op, .int .i64 n, .string s, .slice ka kn kc, .slice na ns.length nc, .slice a l.length c] 28)).alloc (.cells #[.slice ga gl.length gc] 26)).alloc (.cells #[.int .i64 0, .int .i64 0, .string ⟨#[]⟩, .slice none 0 0, .slice none 0 0, .slice none 0 0] 28)).heap.size = w.heap.size + 1 + 1 + 1 := by simp
 have hbW := gUQ (B := w.heap.size) hgW (Nat.le_refl _) (by nofun)
 have hcW := h.grown hgW (by nofun)
 have HRW := hJQ (hR.grown hgW (by nofun))
 have HAW : Hid (∀ y ∈ gl, IsCon P (((w.alloc (.cells #[.int .i64 op, .int .i64 n, .string s, .slice ka kn kc, .slice na ns.length nc, .slice a l.length c] 28)).alloc (.cells #[.slice ga gl.length gc] 26)).alloc (.cells #[.int .i64 0, .int .i64 0, .string ⟨#[]⟩, .slice none 0 0, .slice none 0 0, .slice none 0 0] 28)) y) := fun y hy => (hA y hy).grown hgW (by nofun)
 have HVd := valid_any P _ _ (hE.below hbW) hcW hb (by omega)
 rw [hPW, hv] at HVd
 have HVd := hJQ HVd
 have HCW := hJQ hcW
 have HV := hJQ hV
 have HVF := hJQ hVf
 have HE := hJQ (hE.below hbW)
 have HPW := hJQ hPW
 have HTE := hJQ hTe
 have hgl9 : gl.length<=9223372036854775807 := by omega
 have hvv := hJQ hv
 rw [← hTe] at hbT
 have HBT := hJQ hbT
 clear h hks hPW hg1 hg2 s2 kL0 gC HP HC0 hb0 hsz0 c0 c1 c2 c3 c4 c5 hcW hR hA hV hVf hE hTe hv hbT hb
 generalize hT : sC9 (gl.map pC) 0 (pC (.mk op n s k (.slice na ns.length nc) ns (.slice a l.length c) l)) = T at *
 clear hT
 go_enter Tryz.func36, Tryz.ntmps36
 go_upto_region 1 with fail
 generalize ((w.alloc (.cells #[.int .i64 op, .int .i64 n, .string s, .slice ka kn kc, .slice na ns.length nc, .slice a l.length c] 28)).alloc (.cells #[.slice ga gl.length gc] 26)).alloc (.cells #[.int .i64 0, .int .i64 0, .string ⟨#[]⟩, .slice none 0 0, .slice none 0 0, .slice none 0 0] 28) = W at *
 obtain ⟨c0, c1, c2, c3, c4, c5⟩ := cnQ kB
 go_wp2_with fail
 refine HVd.out.mono ?_
 rintro e w2 ⟨rfl, hb2⟩
 have hbw2 := hbW.trans (hb2.mono hbW.size)
 have kB2 := (hb2.block _ (hLQ kB)).trans kB
 have kL2 := (hb2.block _ (hLQ kL)).trans kL
 have kR2 := (hb2.block _ (hLQ kR)).trans kR
 have cL2 := cell_int kL2
 have HAl := hJQ (all_yes P ga gc gl w2 (HE.out.below hb2) (rowP_below HRW.out hb2) hgl9 (fun y hy => iBQ (HAW.out y hy) hb2) HV.out)
 clear c0 c1 c2 c3 c4 c5 kB kL kR HVd
 go_wp2_with fail
 refine HAl.out.mono ?_
 rintro e w3 ⟨rfl, hb3⟩
 have hb23 := hb2.trans (hb3.mono hb2.size)
 have hbw3 := hbw2.trans (hb3.mono hbw2.size)
 have kB3 := (hb3.block _ (hLQ kB2)).trans kB2
 have kL3 := (hb3.block _ (hLQ kL2)).trans kL2
 have kR3 := (hb3.block _ (hLQ kR2)).trans kR2
 have hs3 := hbw3.size
 have hl3 := hLQ kR3
 have cL3 := cell_int kL3
 obtain ⟨d0, d1, d2, d3, d4, d5⟩ := cnQ kB3
 have hx3 := iBQ HCW.out hb23
 have hr3 := rowP_below HRW.out hb23
 have ha3 : ∀ y ∈ gl, IsCon P w3 y := fun y hy => iBQ (HAW.out y hy) hb23
 have HC := replaced_any P _ 67 #[.pointer (some ⟨w.heap.size + 1, 0, none⟩)] (enters_of Tryz.func67 (by kernel_rfl) rfl) (leafT (gl.map pC)) w3 (HE.out.below hb23) hx3 hvv.out HBT.out (fun mb V hmb hgV => fun W' y d hg hy hf hop hd0 hd1 => by
  have hkl : ∀ q, some mb = some q->¬ (P q/\q < w3.heap.size) := fun q hq hp => by have e2 : mb = q := oJQ hq; have := hp.2; omega
  have hgg := gBQ (fNQ hgV (some mb)) hg
  obtain ⟨dn, rfl⟩ : ∃ dn : Nat, d = dn := ⟨d.toNat, by omega⟩
  refine ⟨leafT_size _ HVF.out _ _, ?_⟩
  exact subst1_any _ y (w.heap.size + 1) ga gc gl W' dn hy hf hop ((hgg.block _ (hLQ kL3) (fun e => by have e2 : w.heap.size + 1 = mb := oJQ e; omega)).trans kL3) (hr3.lt.grown hgg hkl) (fun z hz => (ha3 z hz).lt.grown hgg hkl) (fun z hz => (HV.out z hz).1) hlen (by omega))
 rw [HPW.out, HTE.out] at HC
 have HC := hJQ HC
 clear HAl kB2 kL2 kR2 cL2 hb3 hb2 hb23 hx3 hr3 ha3 hbw2 HRW HAW
 go_wp2_with fail
 refine HC.out.mono ?_
 rintro e w4 ⟨dd, er, rfl, hdd, hb4, hyes, hno⟩
 obtain ⟨xop, xn, xs, xk, xns, xl, xka, xkn, xkc, xna, xnc, xla, xlc, rfl, hxk, _⟩ := cSQ hdd
 have hxv := cVQ (op := xop) (n := xn) (s := xs) (nv := .slice xna xns.length xnc) (lv := .slice xla xl.length xlc) (ns := xns) (l := xl) hxk
 rw [hxv]
 have kR4 := (hb4.block _ hl3).trans kR3
 have hs4 := hb4.size
 have hrow := gRQ w4 (w.heap.size + 1 + 1) #[.int .i64 xop, .int .i64 xn, .string xs, .slice xka xkn xkc, .slice xna xns.length xnc, .slice xla xl.length xlc]
 have HRF := hJQ (setRow_heap w4 (w.heap.size + 1 + 1) _ #[.int .i64 xop, .int .i64 xn, .string xs, .slice xka xkn xkc, .slice xna xns.length xnc, .slice xla xl.length xlc] _ _ kR4)
 have HBF := hJQ ((hbw3.trans (hb4.mono hbw3.size)).trans (gUQ (B := w.heap.size) hrow (by omega) (fun q hq => by have e2 : w.heap.size + 1 + 1 = q := oJQ hq; omega)))
 have HDF := hJQ ((hdd.grown hrow (fun q hq hp => by have e2 : w.heap.size + 1 + 1 = q := oJQ hq; have hp : w3.heap.size<=q := hp; omega)).mono (Q := fun b => w.heap.size<=b) (fun b hb _ => by have hb : w3.heap.size<=b := hb; show w.heap.size<=b; omega))
 have HXV := hJQ hxv
 have HY := hJQ hyes
 have HN := hJQ hno
 clear hrow hdd hxv hyes hno HC hb4
 go_wp2_with (refine wpList_store_row rfl 28 _ _ rfl (w.heap.size + 1 + 1) _ rfl rfl 28 _ kR4 cIQ rfl (all_one _ rfl) ?_)
 refine bodyPost_ret (v := .tuple #[.agg #[.int .i64 xop, .int .i64 xn, .string xs, .slice xka xkn xkc, .slice xna xns.length xnc, .slice xla xl.length xlc], .int .i64 er]) ?_ rfl ⟨_, er, by rw [HXV.out], HDF.out, HBF.out, HY.out, HN.out⟩
 rw [results_cell_tmp (p := 4) (u := 5) (ty := 28) rfl]
 simp [asAddr, run_loadVar_row _ _ _ _ _ _ _ HRF.out Tryz.underlying28 rfl cIQ, Result.andThen]
end Go.Proofs.YtkiffgdinmpljaaGreatDoor
