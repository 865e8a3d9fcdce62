/- tycon.copied. Printed by gen_tcopied.py, expanded by mac.py. The reference's deep and inside; a list of constructors under way in a temporary. Expanded by mac.py. -/
import Derived.Test.YtkiffgdinmpljaaGreatDoorF20
import Derived.Test.YtkiffgdinmpljaaGreatDoorF13
import Derived.Test.YtkiffgdinmpljaaGreatDoorF18
set_option linter.unusedVariables false
set_option linter.unusedSimpArgs false
namespace Go.Proofs.YtkiffgdinmpljaaGreatDoor
open Go Go.RowKit
set_option maxHeartbeats 8000000
set_option maxRecDepth 100000
theorem copied1_any (P : Nat->Prop) (x : ConD) (d : Int) (w : World) (h : IsCon P w x) (hsz : sizeK (pC x).k<=100000) :
 Calls Tryz.prog 107 (#[conV x, .int .i64 d] ++ #[]) w fun e w' => ConOut (fun b => w.heap.size<=b) (leafI (pC x) d) e w'/\Below w.heap.size w w' := by
 have hle : leafI (pC x) d = .mk x.op x.n x.s (pK x.k) [] [] := by cases x; rw [pMQ]; rfl
 rw [hle]
 obtain ⟨op, n, s, k, nv, ns, lv, l⟩ := x
 show Calls _ _ _ _ fun e w' => ConOut (fun b => w.heap.size<=b) (.mk op n s (pK k) [] []) e w'/\_
 obtain ⟨ka, kc, kn, hks⟩ := iKQ h.parts.kind
 obtain ⟨na, nc, rfl, _⟩ := rSQ h.parts.names
 obtain ⟨a, c, rfl, _⟩ := rSQ h.parts.row
 rw [cVQ hks]
 have hll : l.length<=9223372036854775807 := by have h1 := h.parts.llen; have : maxLen = 9223372036854775807 := (by decide); omega
 have hnn : ns.length<=9223372036854775807 := by have h1 := h.parts.nlen; have : maxLen = 9223372036854775807 := (by decide); omega
 have hb0 : Below w.heap.size w (w.alloc (.cells #[.int .i64 op, .int .i64 n, .string s, .slice ka kn kc, .slice na ns.length nc, .slice a l.length c] 28)) := (Below.refl _ _).alloc (Nat.le_refl _) _
 have gC := nHQ w (.cells #[.int .i64 op, .int .i64 n, .string s, .slice ka kn kc, .slice na ns.length nc, .slice a l.length c] 28)
 have hsz0 : (w.alloc (.cells #[.int .i64 op, .int .i64 n, .string s, .slice ka kn kc, .slice na ns.length nc, .slice a l.length c] 28)).heap.size = w.heap.size + 1 := by simp
 obtain ⟨c0, c1, c2, c3, c4, c5⟩ := cnQ gC
 have HP := hJQ (iBQ h hb0).parts
 have HC0 := hJQ (iBQ h hb0)
 have hg1 := gAQ (w.alloc (.cells #[.int .i64 op, .int .i64 n, .string s, .slice ka kn kc, .slice na ns.length nc, .slice a l.length c] 28)) (.cells #[.int .i64 0, .int .i64 0, .string ⟨#[]⟩, .slice none 0 0, .slice none 0 0, .slice none 0 0] 28)
 have kR : ((w.alloc (.cells #[.int .i64 op, .int .i64 n, .string s, .slice ka kn kc, .slice na ns.length nc, .slice a l.length c] 28)).alloc (.cells #[.int .i64 0, .int .i64 0, .string ⟨#[]⟩, .slice none 0 0, .slice none 0 0, .slice none 0 0] 28)).heap[w.heap.size + 1]? = _ := (congrArg _ hsz0.symm).trans (nHQ (w.alloc (.cells #[.int .i64 op, .int .i64 n, .string s, .slice ka kn kc, .slice na ns.length nc, .slice a l.length c] 28)) (.cells #[.int .i64 0, .int .i64 0, .string ⟨#[]⟩, .slice none 0 0, .slice none 0 0, .slice none 0 0] 28))
 have kB := (hg1.block w.heap.size (by omega) (by nofun)).trans gC
 have hbW := gUQ (B := w.heap.size) (gBQ (gAQ w (.cells #[.int .i64 op, .int .i64 n, .string s, .slice ka kn kc, .slice na ns.length nc, .slice a l.length c] 28)) hg1) (Nat.le_refl _) (by nofun)
 have HC := leafOf_any P _ ((w.alloc (.cells #[.int .i64 op, .int .i64 n, .string s, .slice ka kn kc, .slice na ns.length nc, .slice a l.length c] 28)).alloc (.cells #[.int .i64 0, .int .i64 0, .string ⟨#[]⟩, .slice none 0 0, .slice none 0 0, .slice none 0 0] 28)) (iBQ h hbW) hsz
 rw [cVQ hks] at HC
 have HC := hJQ (show Calls Tryz.prog 68 #[(.agg #[.int .i64 op, .int .i64 n, .string s, .slice ka kn kc, .slice na ns.length nc, .slice a l.length c])] ((w.alloc (.cells #[.int .i64 op, .int .i64 n, .string s, .slice ka kn kc, .slice na ns.length nc, .slice a l.length c] 28)).alloc (.cells #[.int .i64 0, .int .i64 0, .string ⟨#[]⟩, .slice none 0 0, .slice none 0 0, .slice none 0 0] 28)) fun e w' => ConOut (fun b => ((w.alloc (.cells #[.int .i64 op, .int .i64 n, .string s, .slice ka kn kc, .slice na ns.length nc, .slice a l.length c] 28)).alloc (.cells #[.int .i64 0, .int .i64 0, .string ⟨#[]⟩, .slice none 0 0, .slice none 0 0, .slice none 0 0] 28)).heap.size<=b) (.mk op n s (pK k) [] []) e w'/\Below ((w.alloc (.cells #[.int .i64 op, .int .i64 n, .string s, .slice ka kn kc, .slice na ns.length nc, .slice a l.length c] 28)).alloc (.cells #[.int .i64 0, .int .i64 0, .string ⟨#[]⟩, .slice none 0 0, .slice none 0 0, .slice none 0 0] 28)).heap.size ((w.alloc (.cells #[.int .i64 op, .int .i64 n, .string s, .slice ka kn kc, .slice na ns.length nc, .slice a l.length c] 28)).alloc (.cells #[.int .i64 0, .int .i64 0, .string ⟨#[]⟩, .slice none 0 0, .slice none 0 0, .slice none 0 0] 28)) w' from HC)
 clear c0 c1 c2 c3 c4 c5 h hks HP HC0 hb0 gC hsz0 hg1 hsz hle
 go_enter Tryz.func107, Tryz.ntmps107
 go_upto_region 1 with fail
 generalize ((w.alloc (.cells #[.int .i64 op, .int .i64 n, .string s, .slice ka kn kc, .slice na ns.length nc, .slice a l.length c] 28)).alloc (.cells #[.int .i64 0, .int .i64 0, .string ⟨#[]⟩, .slice none 0 0, .slice none 0 0, .slice none 0 0] 28)) = W at *
 obtain ⟨c0, c1, c2, c3, c4, c5⟩ := cnQ kB
 go_wp2_with fail
 refine (HC.out).mono ?_
 rintro e w2 ⟨ho, hb2⟩
 obtain ⟨dd, xo, xn, xs, xka, xkn, xkc, xna, xnm, xnc, xla, xlm, xlc, rfl, hdd, hpd, hdv⟩ := ho.open'
 have gR2 := (hb2.block _ (hLQ kR)).trans kR
 have hltR := hLQ kR
 have hrow := gRQ w2 (w.heap.size + 1) #[.int .i64 xo, .int .i64 xn, .string xs, .slice xka xkn xkc, .slice xna xnm xnc, .slice xla xlm xlc]
 have HR3 := hJQ (setRow_heap w2 (w.heap.size + 1) _ #[.int .i64 xo, .int .i64 xn, .string xs, .slice xka xkn xkc, .slice xna xnm xnc, .slice xla xlm xlc] _ _ gR2)
 have HB := hJQ ((hbW.trans (hb2.mono hbW.size)).trans (gUQ (B := w.heap.size) hrow (by have := hbW.size; have := hb2.size; omega) (fun q hq => by have e2 : (w.heap.size + 1) = q := oJQ hq; omega)))
 have HD := hJQ ((hdd.grown hrow (fun q hq hp => by have e2 : (w.heap.size + 1) = q := oJQ hq; have hp : W.heap.size<=q := hp; omega)).mono (Q := (fun b => w.heap.size<=b)) (fun b hb _ => by have hb : W.heap.size<=b := hb; have := hbW.size; show w.heap.size<=b; omega))
 clear hrow hdd ho hb2
 go_wp2_with (refine wpList_store_row rfl 28 _ _ rfl (w.heap.size + 1) _ rfl rfl 28 _ gR2 cIQ rfl (all_one _ rfl) ?_)
 refine bodyPost_ret (results_cell_row rfl _ _ (w.heap.size + 1) 28 #[.int .i64 xo, .int .i64 xn, .string xs, .slice xka xkn xkc, .slice xna xnm xnc, .slice xla xlm xlc] (0, 0) _ rfl HR3.out Tryz.underlying28 rfl cIQ) rfl ?_
 exact ⟨⟨dd, by rw [hdv], HD.out, hpd⟩, HB.out⟩
theorem leafAt_copied (P : Nat->Prop) (w0 : World) (mb : Nat) : LeafAt P w0 mb 107 #[] leafI := by
 intro W x d hg h hf hop hd0 hd1
 have hs : pC x = .mk x.op x.n x.s (pK x.k) x.ns (x.l.map pC) := by cases x; exact pMQ ..
 have hfs := hf
 rw [hs] at hfs
 refine ⟨by unfold leafI; rw [sMQ, sizeCL_nil]; decide, copied1_any P x d W h ?_⟩
 rw [hs]; exact (fSQ hfs).1
theorem tcopied_any (P : Nat->Prop) (x : ConD) (w : World) (h : IsCon P w x) (hv : valC (pC x) = true) :
 Calls Tryz.prog 63 #[conV x] w fun e w' => ConOut (fun b => w.heap.size<=b) (pC x) e w'/\Below w.heap.size w w' := by
 obtain ⟨hv1, hv2, hv3⟩ := val_iff.1 hv
 have hri := reb_id (pC x) 0 hv3
 have hcl := h.lt
 obtain ⟨op, n, s, k, nv, ns, lv, l⟩ := x
 obtain ⟨ka, kc, kn, hks⟩ := iKQ h.parts.kind
 obtain ⟨na, nc, rfl, _⟩ := rSQ h.parts.names
 obtain ⟨a, c, rfl, _⟩ := rSQ h.parts.row
 rw [cVQ hks]
 have hll : l.length<=9223372036854775807 := by have h1 := h.parts.llen; have : maxLen = 9223372036854775807 := (by decide); omega
 have hnn : ns.length<=9223372036854775807 := by have h1 := h.parts.nlen; have : maxLen = 9223372036854775807 := (by decide); omega
 have hb0 : Below w.heap.size w (w.alloc (.cells #[.int .i64 op, .int .i64 n, .string s, .slice ka kn kc, .slice na ns.length nc, .slice a l.length c] 28)) := (Below.refl _ _).alloc (Nat.le_refl _) _
 have gC := nHQ w (.cells #[.int .i64 op, .int .i64 n, .string s, .slice ka kn kc, .slice na ns.length nc, .slice a l.length c] 28)
 have hsz0 : (w.alloc (.cells #[.int .i64 op, .int .i64 n, .string s, .slice ka kn kc, .slice na ns.length nc, .slice a l.length c] 28)).heap.size = w.heap.size + 1 := by simp
 obtain ⟨c0, c1, c2, c3, c4, c5⟩ := cnQ gC
 have HP := hJQ (iBQ h hb0).parts
 have HC0 := hJQ (iBQ h hb0)
 have hPW := cVQ (op := op) (n := n) (s := s) (nv := .slice na ns.length nc) (lv := .slice a l.length c) (ns := ns) (l := l) hks
 have hg1 := gAQ (w.alloc (.cells #[.int .i64 op, .int .i64 n, .string s, .slice ka kn kc, .slice na ns.length nc, .slice a l.length c] 28)) (.cells #[.int .i64 0, .int .i64 0, .string ⟨#[]⟩, .slice none 0 0, .slice none 0 0, .slice none 0 0] 28)
 have hg2 := gAQ ((w.alloc (.cells #[.int .i64 op, .int .i64 n, .string s, .slice ka kn kc, .slice na ns.length nc, .slice a l.length c] 28)).alloc (.cells #[.int .i64 0, .int .i64 0, .string ⟨#[]⟩, .slice none 0 0, .slice none 0 0, .slice none 0 0] 28)) (.cells #[.func (.func 107) #[] #[], .int .i64 20000] 88)
 have s2 : ((w.alloc (.cells #[.int .i64 op, .int .i64 n, .string s, .slice ka kn kc, .slice na ns.length nc, .slice a l.length c] 28)).alloc (.cells #[.int .i64 0, .int .i64 0, .string ⟨#[]⟩, .slice none 0 0, .slice none 0 0, .slice none 0 0] 28)).heap.size = w.heap.size + 1 + 1 := by simp
 have kR0 : ((w.alloc (.cells #[.int .i64 op, .int .i64 n, .string s, .slice ka kn kc, .slice na ns.length nc, .slice a l.length c] 28)).alloc (.cells #[.int .i64 0, .int .i64 0, .string ⟨#[]⟩, .slice none 0 0, .slice none 0 0, .slice none 0 0] 28)).heap[w.heap.size + 1]? = _ := (congrArg _ hsz0.symm).trans (nHQ (w.alloc (.cells #[.int .i64 op, .int .i64 n, .string s, .slice ka kn kc, .slice na ns.length nc, .slice a l.length c] 28)) (.cells #[.int .i64 0, .int .i64 0, .string ⟨#[]⟩, .slice none 0 0, .slice none 0 0, .slice none 0 0] 28))
 have kR := (hg2.block (w.heap.size + 1) (by omega) (by nofun)).trans kR0
 have kB := (hg2.block w.heap.size (by omega) (by nofun)).trans ((hg1.block w.heap.size (by omega) (by nofun)).trans gC)
 have kM : MkAt (((w.alloc (.cells #[.int .i64 op, .int .i64 n, .string s, .slice ka kn kc, .slice na ns.length nc, .slice a l.length c] 28)).alloc (.cells #[.int .i64 0, .int .i64 0, .string ⟨#[]⟩, .slice none 0 0, .slice none 0 0, .slice none 0 0] 28)).alloc (.cells #[.func (.func 107) #[] #[], .int .i64 20000] 88)) (w.heap.size + 1 + 1) 107 #[] 20000 := by
  have := nHQ ((w.alloc (.cells #[.int .i64 op, .int .i64 n, .string s, .slice ka kn kc, .slice na ns.length nc, .slice a l.length c] 28)).alloc (.cells #[.int .i64 0, .int .i64 0, .string ⟨#[]⟩, .slice none 0 0, .slice none 0 0, .slice none 0 0] 28)) (.cells #[.func (.func 107) #[] #[], .int .i64 20000] 88)
  rw [s2] at this
  exact this
 have hgW := gBQ (gBQ (gAQ w (.cells #[.int .i64 op, .int .i64 n, .string s, .slice ka kn kc, .slice na ns.length nc, .slice a l.length c] 28)) hg1) hg2
 have hszW : (((w.alloc (.cells #[.int .i64 op, .int .i64 n, .string s, .slice ka kn kc, .slice na ns.length nc, .slice a l.length c] 28)).alloc (.cells #[.int .i64 0, .int .i64 0, .string ⟨#[]⟩, .slice none 0 0, .slice none 0 0, .slice none 0 0] 28)).alloc (.cells #[.func (.func 107) #[] #[], .int .i64 20000] 88)).heap.size = w.heap.size + 1 + 1 + 1 := by simp
 have HC := rebuild_any (fun b => P b/\b < w.heap.size) (w.heap.size + 1 + 1) 107 #[] (enters_of Tryz.func107 (by kernel_rfl) rfl) leafI (((w.alloc (.cells #[.int .i64 op, .int .i64 n, .string s, .slice ka kn kc, .slice na ns.length nc, .slice a l.length c] 28)).alloc (.cells #[.int .i64 0, .int .i64 0, .string ⟨#[]⟩, .slice none 0 0, .slice none 0 0, .slice none 0 0] 28)).alloc (.cells #[.func (.func 107) #[] #[], .int .i64 20000] 88)) (fun hp => by have := hp.2; omega) (leafAt_copied _ _ _) _ _ 20000 0 ⟨⟨rfl, rfl, rfl, Nat.le_refl _, fun _ _ _ => rfl⟩, hcl.grown hgW (by nofun), hv3, hv1, kM, by omega, by omega, by omega, by omega⟩
 rw [hPW, hri] at HC
 have HC := hJQ HC
 have HSZ := hJQ hv1
 clear h hks hcl hPW hv hv1 hv2 hv3 c0 c1 c2 c3 c4 c5 hg1 hg2 s2 kR0 gC HP HC0 hb0 hsz0 hri kM
 generalize pC (.mk op n s k (.slice na ns.length nc) ns (.slice a l.length c) l) = T at *
 go_enter Tryz.func63, Tryz.ntmps63
 go_upto_region 2 with fail
 generalize (((w.alloc (.cells #[.int .i64 op, .int .i64 n, .string s, .slice ka kn kc, .slice na ns.length nc, .slice a l.length c] 28)).alloc (.cells #[.int .i64 0, .int .i64 0, .string ⟨#[]⟩, .slice none 0 0, .slice none 0 0, .slice none 0 0] 28)).alloc (.cells #[.func (.func 107) #[] #[], .int .i64 20000] 88)) = W at *
 obtain ⟨c0, c1, c2, c3, c4, c5⟩ := cnQ kB
 go_wp2_with fail
 refine HC.out.mono ?_
 rintro e w2 ⟨dd, l1, rfl, hdd, hm1, hgy, hz0, hz1, hyes, hno⟩
 obtain ⟨xop, xn, xs, xk, xns, xl, xka, xkn, xkc, xna, xnc, xa, xc, rfl, hxk, _⟩ := cSQ hdd
 have hxv := cVQ (op := xop) (n := xn) (s := xs) (nv := .slice xna xns.length xnc) (lv := .slice xa xl.length xc) (ns := xns) (l := xl) hxk
 rw [hxv]
 have hs2 := hgy.size
 have hb2 := (gUQ (B := w.heap.size) hgW (Nat.le_refl _) (by nofun)).trans (gUQ (B := w.heap.size) hgy (by omega) (fun q hq => by have e2 : w.heap.size + 1 + 1 = q := oJQ hq; omega))
 have kR2 := (hgy.block (w.heap.size + 1) (by omega) (fun e => by have e2 : w.heap.size + 1 = w.heap.size + 1 + 1 := oJQ e; omega)).trans kR
 obtain ⟨hp, _⟩ := hyes (by have := HSZ.out; omega)
 have hrow := gRQ w2 (w.heap.size + 1) #[.int .i64 xop, .int .i64 xn, .string xs, .slice xka xkn xkc, .slice xna xns.length xnc, .slice xa xl.length xc]
 have HRF := hJQ (setRow_heap w2 (w.heap.size + 1) _ #[.int .i64 xop, .int .i64 xn, .string xs, .slice xka xkn xkc, .slice xna xns.length xnc, .slice xa xl.length xc] _ _ kR2)
 have HBF := hJQ (hb2.trans (gUQ (B := w.heap.size) hrow (by omega) (fun q hq => by have e2 : w.heap.size + 1 = q := oJQ hq; omega)))
 have HDF := hJQ ((hdd.grown hrow (fun q hq hp => by have e2 : w.heap.size + 1 = q := oJQ hq; have hp : W.heap.size<=q := hp; omega)).mono (Q := fun b => w.heap.size<=b) (fun b hb _ => by have hb : W.heap.size<=b := hb; show w.heap.size<=b; omega))
 have HXV := hJQ hxv
 have HPP := hJQ hp
 clear hrow hdd hxv hp hyes hno HC hm1
 go_wp2_with (refine wpList_store_row rfl 28 _ _ rfl (w.heap.size + 1) _ rfl rfl 28 _ kR2 cIQ rfl (all_one _ rfl) ?_)
 refine bodyPost_ret (results_cell_row rfl _ _ (w.heap.size + 1) 28 #[.int .i64 xop, .int .i64 xn, .string xs, .slice xka xkn xkc, .slice xna xns.length xnc, .slice xa xl.length xc] (0, 0) _ rfl HRF.out Tryz.underlying28 rfl cIQ) rfl ?_
 exact ⟨⟨_, by rw [HXV.out], HDF.out, HPP.out⟩, HBF.out⟩
def dpI (op d : Int) : Int := if binderB op = true then d + 1 else d
theorem dpI_nat (op : Int) (d : Nat) : dpI op d = ((deepC op d : Nat) : Int) := by
 unfold dpI deepC
 split
 ·rfl
 ·rfl
theorem dpI_le (op d : Int) : d<=dpI op d/\dpI op d<=d + 1 := by unfold dpI; split <;> omega
theorem deepC_le (op : Int) (d : Nat) : d<=deepC op d/\deepC op d<=d + 1 := by unfold deepC; split <;> omega
theorem rdeep_any (P : Nat->Prop) (x : ConD) (d : Int) (w : World) (h : IsCon P w x) (h0 : -1000000<=d) (h1 : d<=1000000) :
 Calls Tryz.prog 100 #[conV x, .int .i64 d] w fun e w' => e = .returned (.int .i64 (dpI x.op d))/\Below w.heap.size w w' := by
 obtain ⟨op, n, s, k, nv, ns, lv, l⟩ := x
 obtain ⟨ka, kc, kn, hks⟩ := iKQ h.parts.kind
 obtain ⟨na, nc, rfl, _⟩ := rSQ h.parts.names
 obtain ⟨a, c, rfl, _⟩ := rSQ h.parts.row
 rw [cVQ hks]
 have hll : l.length<=9223372036854775807 := by have h1 := h.parts.llen; have : maxLen = 9223372036854775807 := (by decide); omega
 have hnn : ns.length<=9223372036854775807 := by have h1 := h.parts.nlen; have : maxLen = 9223372036854775807 := (by decide); omega
 have hb0 : Below w.heap.size w (w.alloc (.cells #[.int .i64 op, .int .i64 n, .string s, .slice ka kn kc, .slice na ns.length nc, .slice a l.length c] 28)) := (Below.refl _ _).alloc (Nat.le_refl _) _
 have gC := nHQ w (.cells #[.int .i64 op, .int .i64 n, .string s, .slice ka kn kc, .slice na ns.length nc, .slice a l.length c] 28)
 have hsz0 : (w.alloc (.cells #[.int .i64 op, .int .i64 n, .string s, .slice ka kn kc, .slice na ns.length nc, .slice a l.length c] 28)).heap.size = w.heap.size + 1 := by simp
 obtain ⟨c0, c1, c2, c3, c4, c5⟩ := cnQ gC
 have HP := hJQ (iBQ h hb0).parts
 have HC0 := hJQ (iBQ h hb0)
 have HF : Hid (∀ v, dpI op d = v->Ending.returned (.int .i64 v) = Ending.returned (.int .i64 (dpI op d))) := fun v hv => by rw [hv]
 show Calls _ _ _ _ fun e w' => e = .returned (.int .i64 (dpI op d))/\_
 have HB := hJQ (opBinder_any 105 (.inr rfl) op (w.alloc (.cells #[.int .i64 op, .int .i64 n, .string s, .slice ka kn kc, .slice na ns.length nc, .slice a l.length c] 28)))
 have hwr : IntKind.i64.wrap (d + 1) = d + 1 := wrap_ok _ (by omega) (by omega)
 clear h gC HP HC0 hks
 go_enter Tryz.func100, Tryz.ntmps100
 go_wp2_with fail
 refine HB.out.mono ?_
 rintro e w2 ⟨rfl, rfl⟩
 obtain ⟨b, hb⟩ : ∃ b, binderB op = b := ⟨_, rfl⟩
 rw [hb]
 cases b
 ·have HE := hJQ (HF.out d (by unfold dpI; rw [hb]; rfl))
  clear HF hb HB
  go_wp2_with fail
  go_ret
  exact ⟨HE.out, hb0⟩
 ·have HE := hJQ (HF.out (d + 1) (by unfold dpI; rw [hb]; rfl))
  clear HF hb HB
  go_wp2_with fail
  go_ret
  exact ⟨HE.out, hb0⟩
theorem rinside_any (P : Nat->Prop) (x : ConD) (ra : Option Addr) (rm rc : Nat) (w : World) (h : IsCon P w x) :
 Calls Tryz.prog 101 #[conV x, .slice ra rm rc] w fun e w' => e = .returned (.agg #[.int .i64 x.op, .int .i64 x.n, .string x.s, x.k.v, x.nv, .slice ra rm rc])/\Below w.heap.size w w' := by
 obtain ⟨op, n, s, k, nv, ns, lv, l⟩ := x
 obtain ⟨ka, kc, kn, hks⟩ := iKQ h.parts.kind
 obtain ⟨na, nc, rfl, _⟩ := rSQ h.parts.names
 obtain ⟨a, c, rfl, _⟩ := rSQ h.parts.row
 rw [cVQ hks]
 have hll : l.length<=9223372036854775807 := by have h1 := h.parts.llen; have : maxLen = 9223372036854775807 := (by decide); omega
 have hnn : ns.length<=9223372036854775807 := by have h1 := h.parts.nlen; have : maxLen = 9223372036854775807 := (by decide); omega
 have hb0 : Below w.heap.size w (w.alloc (.cells #[.int .i64 op, .int .i64 n, .string s, .slice ka kn kc, .slice na ns.length nc, .slice a l.length c] 28)) := (Below.refl _ _).alloc (Nat.le_refl _) _
 have gC := nHQ w (.cells #[.int .i64 op, .int .i64 n, .string s, .slice ka kn kc, .slice na ns.length nc, .slice a l.length c] 28)
 have hsz0 : (w.alloc (.cells #[.int .i64 op, .int .i64 n, .string s, .slice ka kn kc, .slice na ns.length nc, .slice a l.length c] 28)).heap.size = w.heap.size + 1 := by simp
 obtain ⟨c0, c1, c2, c3, c4, c5⟩ := cnQ gC
 have HP := hJQ (iBQ h hb0).parts
 have HC0 := hJQ (iBQ h hb0)
 show Calls _ _ _ _ fun e w' => e = .returned (.agg #[.int .i64 op, .int .i64 n, .string s, k.v, .slice na ns.length nc, .slice ra rm rc])/\_
 rw [hks]
 have hg1 := gAQ (w.alloc (.cells #[.int .i64 op, .int .i64 n, .string s, .slice ka kn kc, .slice na ns.length nc, .slice a l.length c] 28)) (.cells #[.int .i64 0, .int .i64 0, .string ⟨#[]⟩, .slice none 0 0, .slice none 0 0, .slice none 0 0] 28)
 have kR : ((w.alloc (.cells #[.int .i64 op, .int .i64 n, .string s, .slice ka kn kc, .slice na ns.length nc, .slice a l.length c] 28)).alloc (.cells #[.int .i64 0, .int .i64 0, .string ⟨#[]⟩, .slice none 0 0, .slice none 0 0, .slice none 0 0] 28)).heap[w.heap.size + 1]? = _ := (congrArg _ hsz0.symm).trans (nHQ (w.alloc (.cells #[.int .i64 op, .int .i64 n, .string s, .slice ka kn kc, .slice na ns.length nc, .slice a l.length c] 28)) (.cells #[.int .i64 0, .int .i64 0, .string ⟨#[]⟩, .slice none 0 0, .slice none 0 0, .slice none 0 0] 28))
 have kB := (hg1.block w.heap.size (by omega) (by nofun)).trans gC
 have hbW := gUQ (B := w.heap.size) (gBQ (gAQ w (.cells #[.int .i64 op, .int .i64 n, .string s, .slice ka kn kc, .slice na ns.length nc, .slice a l.length c] 28)) hg1) (Nat.le_refl _) (by nofun)
 have hszW : ((w.alloc (.cells #[.int .i64 op, .int .i64 n, .string s, .slice ka kn kc, .slice na ns.length nc, .slice a l.length c] 28)).alloc (.cells #[.int .i64 0, .int .i64 0, .string ⟨#[]⟩, .slice none 0 0, .slice none 0 0, .slice none 0 0] 28)).heap.size = w.heap.size + 2 := by simp
 clear c0 c1 c2 c3 c4 c5 h hb0 gC HP HC0 hsz0 hg1 hks
 go_enter Tryz.func101, Tryz.ntmps101
 go_upto_region 1 with fail
 generalize (w.alloc (.cells #[.int .i64 op, .int .i64 n, .string s, .slice ka kn kc, .slice na ns.length nc, .slice a l.length c] 28)).alloc (.cells #[.int .i64 0, .int .i64 0, .string ⟨#[]⟩, .slice none 0 0, .slice none 0 0, .slice none 0 0] 28) = W at *
 obtain ⟨c0, c1, c2, c3, c4, c5⟩ := cnQ kB
 have hrow := gRQ W (w.heap.size + 1) #[.int .i64 op, .int .i64 n, .string s, .slice ka kn kc, .slice na ns.length nc, .slice ra rm rc]
 have HRF := hJQ (setRow_heap W (w.heap.size + 1) _ #[.int .i64 op, .int .i64 n, .string s, .slice ka kn kc, .slice na ns.length nc, .slice ra rm rc] _ _ kR)
 have HB := hJQ (hbW.trans (gUQ (B := w.heap.size) hrow (by omega) (fun q hq => by have e2 : w.heap.size + 1 = q := oJQ hq; omega)))
 clear hrow
 go_wp2_with (refine wpList_store_row rfl 28 _ _ rfl (w.heap.size + 1) _ rfl rfl 28 _ kR cIQ rfl (all_one _ rfl) ?_)
 refine bodyPost_ret (results_cell_row rfl _ _ (w.heap.size + 1) 28 #[.int .i64 op, .int .i64 n, .string s, .slice ka kn kc, .slice na ns.length nc, .slice ra rm rc] (0, 0) _ rfl HRF.out Tryz.underlying28 rfl cIQ) rfl ?_
 exact ⟨rfl, HB.out⟩
structure LsC (P : Nat->Prop) (V : World) (B : Nat) (cv : Value) (ds : List ConD) : Prop where
 own : V.ownsRow B 28 6 cv ds.length (cCQ ds)
 els : ∀ y ∈ ds, IsCon (fun b => P b/\cv.ownBlock ≠ some b) V y
 lt : B<=V.heap.size
theorem LsC.nil (P : Nat->Prop) (V : World) (B : Nat) (h : B<=V.heap.size) : LsC P V B (.slice none 0 0) [] := ⟨⟨rfl, .inl ⟨rfl, rfl⟩⟩, (fun y hy => by cases hy), h⟩
theorem LsC.grown {P : Nat->Prop} {V V' : World} {B : Nat} {cv : Value} {ds : List ConD} (h : LsC P V B cv ds) (hg : V.grownBy V' none) : LsC P V' B cv ds :=
 ⟨h.own.kept hg (by cases cv.ownBlock <;> simp), fun y hy => (h.els y hy).grown hg (by nofun), Nat.le_trans h.lt hg.size⟩
theorem LsC.slice {P : Nat->Prop} {V : World} {B : Nat} {cv : Value} {ds : List ConD} (h : LsC P V B cv ds) : ∃ a c, cv = .slice a ds.length c := by
 obtain ⟨_, h2⟩ := h.own
 rcases h2 with ⟨rfl, h0⟩ | ⟨g, cap, cur, rfl, _⟩
 ·exact ⟨none, 0, by rw [h0]⟩
 ·exact ⟨_, _, rfl⟩
theorem LsC.push {P : Nat->Prop} {V w4 : World} {B : Nat} {cv : Value} {ds : List ConD} {y : ConD} {o : Obj} {gN cN : Nat} (h : LsC P V B cv ds) (hy : IsCon (fun b => P b/\cv.ownBlock ≠ some b) V y)
 (hown : w4.ownsRow B 28 6 (.slice (some ⟨gN, 0, none⟩) (ds.length + 1) cN) (ds.length + 1) (cCQ ds ++ cEQ y)) (hg : (V.alloc o).grownBy w4 cv.ownBlock) (hat : cv.ownBlock = some gN ∨ gN = (V.alloc o).heap.size) :
 LsC P w4 B (.slice (some ⟨gN, 0, none⟩) (ds.length + 1) cN) (ds ++ [y]) := by
 have hsz : (V.alloc o).heap.size = V.heap.size + 1 := by simp
 have hgs := hg.size
 have hblt := h.lt
 refine ⟨?_, ?_, by omega⟩
 ·rw [List.length_append, conCells_app]
  have e : cCQ [y] = cEQ y := by simp [cCQ]
  rw [e]
  exact hown
 ·intro z hz
  have hz' : IsCon (fun b => P b/\cv.ownBlock ≠ some b) V z := by
   rcases List.mem_append.1 hz with hz | hz
   ·exact h.els z hz
   ·rw [List.mem_singleton.1 hz]; exact hy
  have hk : IsCon (fun b => (P b/\cv.ownBlock ≠ some b)/\b < V.heap.size) w4 z := by
   refine hz'.lt.keep (by omega) (fun b hb hlt => ?_)
   rw [hg.block b (by omega) (fun e => hb.1.2 e.symm)]
   exact (gAQ V o).block b hlt (by nofun)
  refine hk.mono (fun b hb _ => ⟨hb.1.1, fun e => ?_⟩)
  have e : gN = b := oJQ e
  rcases hat with e2 | e2
  ·exact hb.1.2 (by rw [e2, e])
  ·omega
theorem LsC.row {P : Nat->Prop} {V : World} {B : Nat} {cv : Value} {ds : List ConD} (h : LsC P V B cv ds) (hP : ∀ b, B<=b->P b) : RowP P V cv ds.length (cCQ ds)/\∀ y ∈ ds, IsCon P V y :=
 ⟨rowP_owns h.own hP, fun y hy => (h.els y hy).mono (fun b hb _ => hb.1)⟩
end Go.Proofs.YtkiffgdinmpljaaGreatDoor
