/- tycon.copied. Expanded by mac.py. tycon.copied. Printed by gen_tcopied.py, expanded by mac.py. The reference's deep and inside; a list of constructors under way in a temporary. Expanded by mac.py. slices.Reverse over a list of constructors under way. Expanded by mac.py. normal.occurs. Expanded by mac.py. -/
import Derived.Test.YtkiffgdinmpljaaGreatDoorF13
import Derived.Test.YtkiffgdinmpljaaGreatDoorF8
import Derived.Test.YtkiffgdinmpljaaGreatDoorF12
import Derived.Test.YtkiffgdinmpljaaGreatDoorF6
import Derived.Test.YtkiffgdinmpljaaGreatDoorShelf
set_option linter.unusedVariables false
set_option linter.unusedSimpArgs false
namespace Go.Proofs.YtkiffgdinmpljaaGreatDoor
open Go Go.RowKit
set_option maxHeartbeats 8000000
set_option maxRecDepth 100000
def leafI (c : Cn) (_ : Int) : Cn := .mk c.op c.n c.s c.k [] []
theorem reb_id : ∀ (c : Cn) (d : Int), frmC c = true->rebC leafI d c = c := by
 refine Cn.ind (fun op n s k ns l ih d hf => ?_)
 have hfs := fSQ hf
 by_cases hop : op = 1 ∨ op = 2
 ·rw [rebC_leaf _ _ _ _ _ _ _ _ hop]
  obtain rfl : l = [] := hfs.2.2.2.2 hop
  obtain ⟨h1, _⟩ := (formC_iff cstB labsB ..).1 hf
  have h5 := (node_parts h1).2.2.2.2
  have hlb : labelledB op = false := by rcases hop with rfl | rfl <;> rfl
  rw [hlb, if_neg (by decide)] at h5
  obtain rfl : ns = [] := List.isEmpty_iff.1 h5
  rfl
 ·rw [rebC_node _ _ _ _ _ _ _ _ hop]
  congr 1
  have : ∀ x ∈ l, rebC leafI (if binderB op = true then d + 1 else d) x = x := fun x hx => ih x hx _ (hfs.2.2.2.1 x hx)
  clear ih hfs hf
  induction l with
  | nil => rfl
  | cons x r ihr => rw [List.map_cons, this x (by simp), ihr (fun y hy => this y (by simp [hy]))]
theorem copied1_any (P : Nat->Prop) (x : ConD) (d : Int) (w : World) (h : IsCon P w x) (hsz : sizeK (pC x).k<=100000) :
 Calls Tryz.prog 107 (#[conV x, .int .i64 d] ++ #[]) w fun e w' => ConOut (fun b => w.heap.size<=b) (leafI (pC x) d) e w'/\Below w.heap.size w w' := by
 have hle : leafI (pC x) d = .mk x.op x.n x.s (pK x.k) [] [] := by cases x; rw [pMQ]; rfl
 rw [hle]
 obtain ⟨op, n, s, k, nv, ns, lv, l⟩ := x
 show Calls _ _ _ _ fun e w' => ConOut (fun b => w.heap.size<=b) (.mk op n s (pK k) [] []) e w'/\_
 obtain ⟨ka, kc, kn, na, nc, a, c, rfl, _, rfl, _, hks, hcv, hll, hnn, hb0, gC, hsz0, HP, HC0, c0, c1, c2, c3, c4, c5⟩ := open_box h
 rw [hcv]
 clear hcv
 obtain ⟨hg1, kR, kB⟩ := tri_box gC
 have hbW := gUQ (B := w.heap.size) (gBQ (gAQ w (.cells #[.int .i64 op, .int .i64 n, .string s, .slice ka kn kc, .slice na ns.length nc, .slice a l.length c] 28)) hg1) (nLQ _) (by nofun)
 have HC := leafOf_any P _ ((w.alloc (.cells #[.int .i64 op, .int .i64 n, .string s, .slice ka kn kc, .slice na ns.length nc, .slice a l.length c] 28)).alloc (.cells #[.int .i64 0, .int .i64 0, .string ⟨#[]⟩, .slice none 0 0, .slice none 0 0, .slice none 0 0] 28)) (iBQ h hbW) hsz
 rw [cVQ hks] at HC
 have HC := hJQ (show Calls Tryz.prog 68 #[(.agg #[.int .i64 op, .int .i64 n, .string s, .slice ka kn kc, .slice na ns.length nc, .slice a l.length c])] ((w.alloc (.cells #[.int .i64 op, .int .i64 n, .string s, .slice ka kn kc, .slice na ns.length nc, .slice a l.length c] 28)).alloc (.cells #[.int .i64 0, .int .i64 0, .string ⟨#[]⟩, .slice none 0 0, .slice none 0 0, .slice none 0 0] 28)) fun e w' => ConOut (fun b => ((w.alloc (.cells #[.int .i64 op, .int .i64 n, .string s, .slice ka kn kc, .slice na ns.length nc, .slice a l.length c] 28)).alloc (.cells #[.int .i64 0, .int .i64 0, .string ⟨#[]⟩, .slice none 0 0, .slice none 0 0, .slice none 0 0] 28)).heap.size<=b) (.mk op n s (pK k) [] []) e w'/\Below ((w.alloc (.cells #[.int .i64 op, .int .i64 n, .string s, .slice ka kn kc, .slice na ns.length nc, .slice a l.length c] 28)).alloc (.cells #[.int .i64 0, .int .i64 0, .string ⟨#[]⟩, .slice none 0 0, .slice none 0 0, .slice none 0 0] 28)).heap.size ((w.alloc (.cells #[.int .i64 op, .int .i64 n, .string s, .slice ka kn kc, .slice na ns.length nc, .slice a l.length c] 28)).alloc (.cells #[.int .i64 0, .int .i64 0, .string ⟨#[]⟩, .slice none 0 0, .slice none 0 0, .slice none 0 0] 28)) w' from HC)
 clear c0 c1 c2 c3 c4 c5 h hks HP HC0 hb0 gC hsz0 hg1 hsz hle
 go_enter Tryz.func107, Tryz.ntmps107
 go_upto_region 1 with fail
 generalize ((w.alloc (.cells #[.int .i64 op, .int .i64 n, .string s, .slice ka kn kc, .slice na ns.length nc, .slice a l.length c] 28)).alloc (.cells #[.int .i64 0, .int .i64 0, .string ⟨#[]⟩, .slice none 0 0, .slice none 0 0, .slice none 0 0] 28)) = W at *
 obtain ⟨c0, c1, c2, c3, c4, c5⟩ := cnQ kB
 go_wp2_with fail
 refine (HC.out).mono ?_
 rintro e w2 ⟨ho, hb2⟩
 obtain ⟨dd, xo, xn, xs, xka, xkn, xkc, xna, xnm, xnc, xla, xlm, xlc, rfl, hdd, hpd, hdv⟩ := ho.open'
 have gR2 := (hb2.block _ (hLQ kR)).trans kR
 have hltR := hLQ kR
 have hrow := gRQ w2 (w.heap.size + 1) #[.int .i64 xo, .int .i64 xn, .string xs, .slice xka xkn xkc, .slice xna xnm xnc, .slice xla xlm xlc]
 have HR3 := hJQ (setRow_heap w2 (w.heap.size + 1) _ #[.int .i64 xo, .int .i64 xn, .string xs, .slice xka xkn xkc, .slice xna xnm xnc, .slice xla xlm xlc] _ _ gR2)
 have HB := hJQ ((hbW.trans (hb2.mono hbW.size)).trans (gUQ (B := w.heap.size) hrow (by have := hbW.size; have := hb2.size; omega) (fun q hq => by have e2 : (w.heap.size + 1) = q := oJQ hq; omega)))
 have HD := hJQ ((hdd.grown hrow (fun q hq hp => by have e2 : (w.heap.size + 1) = q := oJQ hq; have hp : W.heap.size<=q := hp; omega)).mono (Q := (fun b => w.heap.size<=b)) (fun b hb _ => by have hb : W.heap.size<=b := hb; have := hbW.size; show w.heap.size<=b; omega))
 clear hrow hdd ho hb2
 go_wp2_with (refine wpList_store_row rfl 28 _ _ rfl (w.heap.size + 1) _ rfl rfl 28 _ gR2 cIQ rfl (all_one _ rfl) ?_)
 refine bodyPost_ret (results_cell_row rfl _ _ (w.heap.size + 1) 28 #[.int .i64 xo, .int .i64 xn, .string xs, .slice xka xkn xkc, .slice xna xnm xnc, .slice xla xlm xlc] (0, 0) _ rfl HR3.out Tryz.underlying28 rfl cIQ) rfl ?_
 exact ⟨⟨dd, by rw [hdv], HD.out, hpd⟩, HB.out⟩
theorem leafAt_copied (P : Nat->Prop) (w0 : World) (mb : Nat) : LeafAt P w0 mb 107 #[] leafI := by
 intro W x d hg h hf hop hd0 hd1
 have hs : pC x = .mk x.op x.n x.s (pK x.k) x.ns (x.l.map pC) := by cases x; exact pMQ ..
 have hfs := hf
 rw [hs] at hfs
 refine ⟨by unfold leafI; rw [sMQ, sizeCL_nil]; decide, copied1_any P x d W h ?_⟩
 rw [hs]; exact (fSQ hfs).1
theorem tcopied_any (P : Nat->Prop) (x : ConD) (w : World) (h : IsCon P w x) (hv : valC (pC x) = true) :
 Calls Tryz.prog 63 #[conV x] w fun e w' => ConOut (fun b => w.heap.size<=b) (pC x) e w'/\Below w.heap.size w w' := by
 obtain ⟨hv1, hv2, hv3⟩ := val_iff.1 hv
 have hri := reb_id (pC x) 0 hv3
 have hcl := h.lt
 obtain ⟨op, n, s, k, nv, ns, lv, l⟩ := x
 obtain ⟨ka, kc, kn, na, nc, a, c, rfl, _, rfl, _, hks, hcv, hll, hnn, hb0, gC, hsz0, HP, HC0, c0, c1, c2, c3, c4, c5⟩ := open_box h
 rw [hcv]
 clear hcv
 have hPW := cVQ (op := op) (n := n) (s := s) (nv := .slice na ns.length nc) (lv := .slice a l.length c) (ns := ns) (l := l) hks
 have hg1 := gAQ (w.alloc (.cells #[.int .i64 op, .int .i64 n, .string s, .slice ka kn kc, .slice na ns.length nc, .slice a l.length c] 28)) (.cells #[.int .i64 0, .int .i64 0, .string ⟨#[]⟩, .slice none 0 0, .slice none 0 0, .slice none 0 0] 28)
 have hg2 := gAQ ((w.alloc (.cells #[.int .i64 op, .int .i64 n, .string s, .slice ka kn kc, .slice na ns.length nc, .slice a l.length c] 28)).alloc (.cells #[.int .i64 0, .int .i64 0, .string ⟨#[]⟩, .slice none 0 0, .slice none 0 0, .slice none 0 0] 28)) (.cells #[.func (.func 107) #[] #[], .int .i64 20000] 88)
 have s2 : ((w.alloc (.cells #[.int .i64 op, .int .i64 n, .string s, .slice ka kn kc, .slice na ns.length nc, .slice a l.length c] 28)).alloc (.cells #[.int .i64 0, .int .i64 0, .string ⟨#[]⟩, .slice none 0 0, .slice none 0 0, .slice none 0 0] 28)).heap.size = w.heap.size + 1 + 1 := by simp
 have kR0 : ((w.alloc (.cells #[.int .i64 op, .int .i64 n, .string s, .slice ka kn kc, .slice na ns.length nc, .slice a l.length c] 28)).alloc (.cells #[.int .i64 0, .int .i64 0, .string ⟨#[]⟩, .slice none 0 0, .slice none 0 0, .slice none 0 0] 28)).heap[w.heap.size + 1]? = _ := (congrArg _ hsz0.symm).trans (nHQ (w.alloc (.cells #[.int .i64 op, .int .i64 n, .string s, .slice ka kn kc, .slice na ns.length nc, .slice a l.length c] 28)) (.cells #[.int .i64 0, .int .i64 0, .string ⟨#[]⟩, .slice none 0 0, .slice none 0 0, .slice none 0 0] 28))
 have kR := (hg2.block (w.heap.size + 1) (by omega) (by nofun)).trans kR0
 have kB := (hg2.block w.heap.size (by omega) (by nofun)).trans ((hg1.block w.heap.size (by omega) (by nofun)).trans gC)
 have kM : MkAt (((w.alloc (.cells #[.int .i64 op, .int .i64 n, .string s, .slice ka kn kc, .slice na ns.length nc, .slice a l.length c] 28)).alloc (.cells #[.int .i64 0, .int .i64 0, .string ⟨#[]⟩, .slice none 0 0, .slice none 0 0, .slice none 0 0] 28)).alloc (.cells #[.func (.func 107) #[] #[], .int .i64 20000] 88)) (w.heap.size + 1 + 1) 107 #[] 20000 := by
  have := nHQ ((w.alloc (.cells #[.int .i64 op, .int .i64 n, .string s, .slice ka kn kc, .slice na ns.length nc, .slice a l.length c] 28)).alloc (.cells #[.int .i64 0, .int .i64 0, .string ⟨#[]⟩, .slice none 0 0, .slice none 0 0, .slice none 0 0] 28)) (.cells #[.func (.func 107) #[] #[], .int .i64 20000] 88)
  rw [s2] at this
  exact this
 have hgW := gBQ (gBQ (gAQ w (.cells #[.int .i64 op, .int .i64 n, .string s, .slice ka kn kc, .slice na ns.length nc, .slice a l.length c] 28)) hg1) hg2
 have hszW : (((w.alloc (.cells #[.int .i64 op, .int .i64 n, .string s, .slice ka kn kc, .slice na ns.length nc, .slice a l.length c] 28)).alloc (.cells #[.int .i64 0, .int .i64 0, .string ⟨#[]⟩, .slice none 0 0, .slice none 0 0, .slice none 0 0] 28)).alloc (.cells #[.func (.func 107) #[] #[], .int .i64 20000] 88)).heap.size = w.heap.size + 1 + 1 + 1 := by simp
 have HC := rebuild_any (fun b => P b/\b < w.heap.size) (w.heap.size + 1 + 1) 107 #[] (enters_of Tryz.func107 (by kernel_rfl) rfl) leafI (((w.alloc (.cells #[.int .i64 op, .int .i64 n, .string s, .slice ka kn kc, .slice na ns.length nc, .slice a l.length c] 28)).alloc (.cells #[.int .i64 0, .int .i64 0, .string ⟨#[]⟩, .slice none 0 0, .slice none 0 0, .slice none 0 0] 28)).alloc (.cells #[.func (.func 107) #[] #[], .int .i64 20000] 88)) (fun hp => by have := hp.2; omega) (leafAt_copied _ _ _) _ _ 20000 0 ⟨⟨rfl, rfl, rfl, Nat.le_refl _, fun _ _ _ => rfl⟩, hcl.grown hgW (by nofun), hv3, hv1, kM, by omega, by omega, by omega, by omega⟩
 rw [hPW, hri] at HC
 have HC := hJQ HC
 have HSZ := hJQ hv1
 clear h hks hcl hPW hv hv1 hv2 hv3 c0 c1 c2 c3 c4 c5 hg1 hg2 s2 kR0 gC HP HC0 hb0 hsz0 hri kM
 generalize pC (.mk op n s k (.slice na ns.length nc) ns (.slice a l.length c) l) = T at *
 go_enter Tryz.func63, Tryz.ntmps63
 go_upto_region 2 with fail
 generalize (((w.alloc (.cells #[.int .i64 op, .int .i64 n, .string s, .slice ka kn kc, .slice na ns.length nc, .slice a l.length c] 28)).alloc (.cells #[.int .i64 0, .int .i64 0, .string ⟨#[]⟩, .slice none 0 0, .slice none 0 0, .slice none 0 0] 28)).alloc (.cells #[.func (.func 107) #[] #[], .int .i64 20000] 88)) = W at *
 obtain ⟨c0, c1, c2, c3, c4, c5⟩ := cnQ kB
 go_wp2_with fail
 refine HC.out.mono ?_
 rintro e w2 ⟨dd, l1, rfl, hdd, hm1, hgy, hz0, hz1, hyes, hno⟩
 obtain ⟨xop, xn, xs, xk, xns, xl, xka, xkn, xkc, xna, xnc, xa, xc, rfl, hxk, _⟩ := cSQ hdd
 have hxv := cVQ (op := xop) (n := xn) (s := xs) (nv := .slice xna xns.length xnc) (lv := .slice xa xl.length xc) (ns := xns) (l := xl) hxk
 rw [hxv]
 have hs2 := hgy.size
 have hb2 := (gUQ (B := w.heap.size) hgW (nLQ _) (by nofun)).trans (gUQ (B := w.heap.size) hgy (by omega) (fun q hq => by have e2 : w.heap.size + 1 + 1 = q := oJQ hq; omega))
 have kR2 := (hgy.block (w.heap.size + 1) (by omega) (fun e => by have e2 : w.heap.size + 1 = w.heap.size + 1 + 1 := oJQ e; omega)).trans kR
 obtain ⟨hp, _⟩ := hyes (by have := HSZ.out; omega)
 have hrow := gRQ w2 (w.heap.size + 1) #[.int .i64 xop, .int .i64 xn, .string xs, .slice xka xkn xkc, .slice xna xns.length xnc, .slice xa xl.length xc]
 have HRF := hJQ (setRow_heap w2 (w.heap.size + 1) _ #[.int .i64 xop, .int .i64 xn, .string xs, .slice xka xkn xkc, .slice xna xns.length xnc, .slice xa xl.length xc] _ _ kR2)
 have HBF := hJQ (hb2.trans (gUQ (B := w.heap.size) hrow (by omega) (fun q hq => by have e2 : w.heap.size + 1 = q := oJQ hq; omega)))
 have HDF := hJQ ((hdd.grown hrow (fun q hq hp => by have e2 : w.heap.size + 1 = q := oJQ hq; have hp : W.heap.size<=q := hp; omega)).mono (Q := fun b => w.heap.size<=b) (fun b hb _ => by have hb : W.heap.size<=b := hb; show w.heap.size<=b; omega))
 have HXV := hJQ hxv
 have HPP := hJQ hp
 clear hrow hdd hxv hp hyes hno HC hm1
 go_wp2_with (refine wpList_store_row rfl 28 _ _ rfl (w.heap.size + 1) _ rfl rfl 28 _ kR2 cIQ rfl (all_one _ rfl) ?_)
 refine bodyPost_ret (results_cell_row rfl _ _ (w.heap.size + 1) 28 #[.int .i64 xop, .int .i64 xn, .string xs, .slice xka xkn xkc, .slice xna xns.length xnc, .slice xa xl.length xc] (0, 0) _ rfl HRF.out Tryz.underlying28 rfl cIQ) rfl ?_
 exact ⟨⟨_, by rw [HXV.out], HDF.out, HPP.out⟩, HBF.out⟩
def dpI (op d : Int) : Int := if binderB op = true then d + 1 else d
theorem dpI_nat (op : Int) (d : Nat) : dpI op d = ((deepC op d : Nat) : Int) := by
 unfold dpI deepC
 split
 ·rfl
 ·rfl
theorem dpI_le (op d : Int) : d<=dpI op d/\dpI op d<=d + 1 := by unfold dpI; split <;> omega
theorem deepC_le (op : Int) (d : Nat) : d<=deepC op d/\deepC op d<=d + 1 := by unfold deepC; split <;> omega
theorem rdeep_any (P : Nat->Prop) (x : ConD) (d : Int) (w : World) (h : IsCon P w x) (h0 : -1000000<=d) (h1 : d<=1000000) :
 Calls Tryz.prog 100 #[conV x, .int .i64 d] w fun e w' => e = .returned (.int .i64 (dpI x.op d))/\Below w.heap.size w w' := by
 obtain ⟨op, n, s, k, nv, ns, lv, l⟩ := x
 obtain ⟨ka, kc, kn, na, nc, a, c, rfl, _, rfl, _, hks, hcv, hll, hnn, hb0, gC, hsz0, HP, HC0, c0, c1, c2, c3, c4, c5⟩ := open_box h
 rw [hcv]
 clear hcv
 have HF : Hid (∀ v, dpI op d = v->Ending.returned (.int .i64 v) = Ending.returned (.int .i64 (dpI op d))) := fun v hv => by rw [hv]
 show Calls _ _ _ _ fun e w' => e = .returned (.int .i64 (dpI op d))/\_
 have HB := hJQ (opBinder_any 105 (.inr rfl) op (w.alloc (.cells #[.int .i64 op, .int .i64 n, .string s, .slice ka kn kc, .slice na ns.length nc, .slice a l.length c] 28)))
 have hwr : IntKind.i64.wrap (d + 1) = d + 1 := wrap_ok _ (by omega) (by omega)
 clear h gC HP HC0 hks
 go_enter Tryz.func100, Tryz.ntmps100
 go_wp2_with fail
 refine HB.out.mono ?_
 rintro e w2 ⟨rfl, rfl⟩
 obtain ⟨b, hb⟩ : ∃ b, binderB op = b := ⟨_, rfl⟩
 rw [hb]
 cases b
 ·have HE := hJQ (HF.out d (by unfold dpI; rw [hb]; rfl))
  clear HF hb HB
  go_wp2_with fail
  go_ret
  exact ⟨HE.out, hb0⟩
 ·have HE := hJQ (HF.out (d + 1) (by unfold dpI; rw [hb]; rfl))
  clear HF hb HB
  go_wp2_with fail
  go_ret
  exact ⟨HE.out, hb0⟩
theorem rinside_any (P : Nat->Prop) (x : ConD) (ra : Option Addr) (rm rc : Nat) (w : World) (h : IsCon P w x) :
 Calls Tryz.prog 101 #[conV x, .slice ra rm rc] w fun e w' => e = .returned (.agg #[.int .i64 x.op, .int .i64 x.n, .string x.s, x.k.v, x.nv, .slice ra rm rc])/\Below w.heap.size w w' := by
 obtain ⟨op, n, s, k, nv, ns, lv, l⟩ := x
 obtain ⟨ka, kc, kn, na, nc, a, c, rfl, _, rfl, _, hks, hcv, hll, hnn, hb0, gC, hsz0, HP, HC0, c0, c1, c2, c3, c4, c5⟩ := open_box h
 rw [hcv]
 clear hcv
 show Calls _ _ _ _ fun e w' => e = .returned (.agg #[.int .i64 op, .int .i64 n, .string s, k.v, .slice na ns.length nc, .slice ra rm rc])/\_
 rw [hks]
 obtain ⟨hg1, kR, kB, hszW⟩ := fo_box gC
 have hbW := gUQ (B := w.heap.size) (gBQ (gAQ w (.cells #[.int .i64 op, .int .i64 n, .string s, .slice ka kn kc, .slice na ns.length nc, .slice a l.length c] 28)) hg1) (nLQ _) (by nofun)
 clear c0 c1 c2 c3 c4 c5 h hb0 gC HP HC0 hsz0 hg1 hks
 go_enter Tryz.func101, Tryz.ntmps101
 go_upto_region 1 with fail
 generalize (w.alloc (.cells #[.int .i64 op, .int .i64 n, .string s, .slice ka kn kc, .slice na ns.length nc, .slice a l.length c] 28)).alloc (.cells #[.int .i64 0, .int .i64 0, .string ⟨#[]⟩, .slice none 0 0, .slice none 0 0, .slice none 0 0] 28) = W at *
 obtain ⟨c0, c1, c2, c3, c4, c5⟩ := cnQ kB
 have hrow := gRQ W (w.heap.size + 1) #[.int .i64 op, .int .i64 n, .string s, .slice ka kn kc, .slice na ns.length nc, .slice ra rm rc]
 have HRF := hJQ (setRow_heap W (w.heap.size + 1) _ #[.int .i64 op, .int .i64 n, .string s, .slice ka kn kc, .slice na ns.length nc, .slice ra rm rc] _ _ kR)
 have HB := hJQ (hbW.trans (gUQ (B := w.heap.size) hrow (by omega) (fun q hq => by have e2 : w.heap.size + 1 = q := oJQ hq; omega)))
 clear hrow
 go_wp2_with (refine wpList_store_row rfl 28 _ _ rfl (w.heap.size + 1) _ rfl rfl 28 _ kR cIQ rfl (all_one _ rfl) ?_)
 refine bodyPost_ret (results_cell_row rfl _ _ (w.heap.size + 1) 28 #[.int .i64 op, .int .i64 n, .string s, .slice ka kn kc, .slice na ns.length nc, .slice ra rm rc] (0, 0) _ rfl HRF.out Tryz.underlying28 rfl cIQ) rfl ?_
 exact ⟨rfl, HB.out⟩
structure LsC (P : Nat->Prop) (V : World) (B : Nat) (cv : Value) (ds : List ConD) : Prop where
 own : V.ownsRow B 28 6 cv ds.length (cCQ ds)
 els : ∀ y ∈ ds, IsCon (fun b => P b/\cv.ownBlock ≠ some b) V y
 lt : B<=V.heap.size
theorem LsC.nil (P : Nat->Prop) (V : World) (B : Nat) (h : B<=V.heap.size) : LsC P V B (.slice none 0 0) [] := ⟨⟨rfl, .inl ⟨rfl, rfl⟩⟩, (fun y hy => by cases hy), h⟩
theorem LsC.grown {P : Nat->Prop} {V V' : World} {B : Nat} {cv : Value} {ds : List ConD} (h : LsC P V B cv ds) (hg : V.grownBy V' none) : LsC P V' B cv ds :=
 ⟨h.own.kept hg (by cases cv.ownBlock <;> simp), fun y hy => (h.els y hy).grown hg (by nofun), Nat.le_trans h.lt hg.size⟩
theorem LsC.slice {P : Nat->Prop} {V : World} {B : Nat} {cv : Value} {ds : List ConD} (h : LsC P V B cv ds) : ∃ a c, cv = .slice a ds.length c := by
 obtain ⟨_, h2⟩ := h.own
 rcases h2 with ⟨rfl, h0⟩ | ⟨g, cap, cur, rfl, _⟩
 ·exact ⟨none, 0, by rw [h0]⟩
 ·exact ⟨_, _, rfl⟩
theorem LsC.push {P : Nat->Prop} {V w4 : World} {B : Nat} {cv : Value} {ds : List ConD} {y : ConD} {o : Obj} {gN cN : Nat} (h : LsC P V B cv ds) (hy : IsCon (fun b => P b/\cv.ownBlock ≠ some b) V y)
 (hown : w4.ownsRow B 28 6 (.slice (some ⟨gN, 0, none⟩) (ds.length + 1) cN) (ds.length + 1) (cCQ ds ++ cEQ y)) (hg : (V.alloc o).grownBy w4 cv.ownBlock) (hat : cv.ownBlock = some gN ∨ gN = (V.alloc o).heap.size) :
 LsC P w4 B (.slice (some ⟨gN, 0, none⟩) (ds.length + 1) cN) (ds ++ [y]) := by
 have hsz : (V.alloc o).heap.size = V.heap.size + 1 := by simp
 have hgs := hg.size
 have hblt := h.lt
 refine ⟨?_, ?_, by omega⟩
 ·rw [List.length_append, conCells_app]
  have e : cCQ [y] = cEQ y := by simp [cCQ]
  rw [e]
  exact hown
 ·intro z hz
  have hz' : IsCon (fun b => P b/\cv.ownBlock ≠ some b) V z := by
   rcases List.mem_append.1 hz with hz | hz
   ·exact h.els z hz
   ·rw [List.mem_singleton.1 hz]; exact hy
  have hk : IsCon (fun b => (P b/\cv.ownBlock ≠ some b)/\b < V.heap.size) w4 z := by
   refine hz'.lt.keep (by omega) (fun b hb hlt => ?_)
   rw [hg.block b (by omega) (fun e => hb.1.2 e.symm)]
   exact (gAQ V o).block b hlt (by nofun)
  refine hk.mono (fun b hb _ => ⟨hb.1.1, fun e => ?_⟩)
  have e : gN = b := oJQ e
  rcases hat with e2 | e2
  ·exact hb.1.2 (by rw [e2, e])
  ·omega
theorem LsC.row {P : Nat->Prop} {V : World} {B : Nat} {cv : Value} {ds : List ConD} (h : LsC P V B cv ds) (hP : ∀ b, B<=b->P b) : RowP P V cv ds.length (cCQ ds)/\∀ y ∈ ds, IsCon P V y :=
 ⟨rowP_owns h.own hP, fun y hy => (h.els y hy).mono (fun b hb _ => hb.1)⟩
end Go.Proofs.YtkiffgdinmpljaaGreatDoor
namespace Go.Proofs.YtkiffgdinmpljaaGreatDoor
open Go Go.RowKit Go.Sort
def encR (x : ConD) : List Value := (cEQ x).map fun v => if v.oneCell' = true then v else .int .i64 0
theorem encR_len (x : ConD) : (encR x).length = 6 := rfl
theorem encR_one (x : ConD) : ∀ v ∈ encR x, v.oneCell' = true := fun v hv => by
 obtain ⟨u, _, rfl⟩ := List.mem_map.1 hv
 split
 ·assumption
 ·rfl
theorem encR_eq {P : Nat->Prop} {w : World} {x : ConD} (h : IsCon P w x) : encR x = cEQ x := by
 obtain ⟨yop, yn, ys, yk, yns, yl, yka, ykn, ykc, yna, ync, ya, yc', rfl, hyk, _⟩ := cSQ h
 show [_, _, _, (if yk.v.oneCell' = true then yk.v else _), _, _] = [_, _, _, yk.v, _, _]
 rw [hyk]; rfl
theorem flat_eq (ds : List ConD) (h : ∀ y ∈ ds, encR y = cEQ y) : (flatK encR 6 ds.toArray).toList = cCQ ds := by
 apply List.ext_getElem
 ·simp [conCells_length]
 ·intro t h1 h2
  have ht : t < ds.length * 6 := by simpa [conCells_length] using h2
  have hd : t / 6 < ds.length := Nat.div_lt_of_lt_mul (by omega)
  have hm : t % 6 < 6 := Nat.mod_lt _ (by decide)
  have e := conCells_at ds (t / 6) (t % 6) hd hm
  rw [Nat.div_add_mod' t 6] at e
  have g := get_flatK encR 6 ds.toArray t (by simpa using ht)
  rw [getElem!_pos _ t (by simpa using ht)] at g
  rw [Array.getElem_toList, g]
  have hy : ds.toArray[t / 6]! = ds.getD (t / 6) default := by simp [List.getD, hd, getElem!_pos]
  have hmem : ds.getD (t / 6) default ∈ ds := by simp [List.getD, hd]
  rw [hy, h _ hmem, getElem!_pos _ _ (by show t % 6 < 6; exact hm)]
  rw [List.getD_eq_getElem?_getD, List.getElem?_eq_getElem h2, List.getD_eq_getElem?_getD, List.getElem?_eq_getElem (by show t % 6 < 6; exact hm)] at e
  exact e.symm
theorem take_put (cur F : Array Value) (h : F.size<=cur.size) : (putCells id 0 F cur).toList.take F.size = F.toList := by
 apply List.ext_getElem?
 intro j
 by_cases hj : j < F.size
 ·rw [List.getElem?_take_of_lt hj, Array.getElem?_toList]
  simp [putCells, hj, show j < cur.size by omega]
 ·rw [List.getElem?_take_eq_none (by omega), List.getElem?_eq_none (by simp; omega)]
theorem heap_put {w : World} {g n : Nat} {cur F : Array Value} {e : TypeId} {fr : Nat × Nat} (hb : w.heap[g]? = some (.cells cur e fr)) :
 (putRow id (Sort.ahead w n) g 0 F).heap[g]? = some (.cells (putCells id 0 F cur) e fr) := by
 simp [putRow, mapBlock, Sort.ahead, Array.getElem?_modify, hb, onCells]
theorem grown_put {w : World} {g n : Nat} {F : Array Value} : w.grownBy (putRow id (Sort.ahead w n) g 0 F) (some g) := by
 refine ⟨rfl, rfl, rfl, by simp [putRow, mapBlock, Sort.ahead], fun k hk hne => ?_⟩
 have : g ≠ k := fun e => hne (by rw [e])
 simp [putRow, mapBlock, Sort.ahead, Array.getElem?_modify, this]
theorem reverse_any (P : Nat->Prop) (B : Nat) (V : World) (cv : Value) (ds : List ConD) (h : LsC P V B cv ds) (hl : ds.length<=1000000) :
 Calls Tryz.prog 64 #[cv] V fun e w' => e = .returned (.tuple #[])/\LsC P w' B cv ds.reverse/\V.grownBy w' cv.ownBlock := by
 obtain ⟨hx, hr⟩ := h.own
 rcases hr with ⟨rfl, h0⟩ | ⟨g, cap, cur, rfl, hBg, hb, h1, h2, h3, h4⟩
 ·obtain rfl : ds = [] := List.length_eq_zero_iff.1 h0
  refine (Tryz.slices_Reverse_empty none 0 V).mono ?_
  rintro e w' ⟨rfl, rfl⟩
  exact ⟨rfl, h, ⟨rfl, rfl, rfl, Nat.le_refl _, fun _ _ _ => rfl⟩⟩
 ·have he : ∀ y ∈ ds, encR y = cEQ y := fun y hy => encR_eq (h.els y hy)
  have hfl := flat_eq ds he
  have hfs : (flatK encR 6 ds.toArray).size = ds.length * 6 := by simp
  have hH : HoldsK encR 6 V g 0 ds.toArray := by
   intro j hj
   have hj' : j < ds.length * 6 := by rw [hfs] at hj; exact hj
   refine ⟨?_, by simp [World.frozen?, hb]⟩
   have e1 : (cur.toList.take (ds.length * 6))[j]? = (flatK encR 6 ds.toArray).toList[j]? := by rw [h4, hfl]
   rw [List.getElem?_take_of_lt hj'] at e1
   simp only [World.cell?, hb, Nat.zero_add]
   simp only [Option.isSome_none, Bool.false_eq_true, if_false]
   rw [← Array.getElem?_toList, e1, Array.getElem?_toList]
   rw [Array.getElem?_eq_getElem hj, getElem!_pos _ j hj]; rfl
  have hR := Tryz.slices_Reverse 6 Tryz.isAgg28 Tryz.sizeOf28 encR encR_len encR_one g 0 cap ds.toArray V hH (by simp; omega)
  rw [show ds.toArray.size = ds.length from by simp] at hR
  refine hR.mono ?_
  rintro e w' ⟨rfl, n, rfl⟩
  have her : ∀ y ∈ ds.reverse, encR y = cEQ y := fun y hy => he y (List.mem_reverse.1 hy)
  have hfr := flat_eq ds.reverse her
  have hrs : (flatK encR 6 ds.reverse.toArray).size = ds.length * 6 := by simp
  have hg := grown_put (w := V) (g := g) (n := n) (F := flatK encR 6 ds.reverse.toArray)
  rw [show ds.toArray.reverse = ds.reverse.toArray from by simp]
  refine ⟨rfl, ⟨⟨?_, .inr ⟨g, cap, _, ?_, hBg, heap_put hb, ?_, h2, ?_, ?_⟩⟩, fun y hy => ?_, Nat.le_trans h.lt hg.size⟩, hg⟩
  ·rw [conCells_length]
  ·rw [List.length_reverse]
  ·rw [List.length_reverse]; exact h1
  ·rw [← h3]; simp [putCells]
  ·rw [List.length_reverse, ← hrs, take_put _ _ (by rw [hrs, h3]; exact Nat.mul_le_mul_right 6 h1), hfr]
  ·exact (h.els y (List.mem_reverse.1 hy)).grown hg (fun q hq hp => hp.2 (by show some g = some q; exact hq))
end Go.Proofs.YtkiffgdinmpljaaGreatDoor
namespace Go.Proofs.YtkiffgdinmpljaaGreatDoor
open Go Go.RowKit
theorem depthCL_ge' (l : List Cn) (x : Cn) (h : x ∈ l) : dCQ x<=depthCL l := by
 induction l with
 | nil => cases h
 | cons y l ih =>
   rw [depthCL_cons]
   rcases List.mem_cons.1 h with rfl | h
   ·omega
   ·have := ih h; omega
def OccAll (x : ConD) : Prop := ∀ (P : Nat->Prop) (w : World) (i : Int), IsCon P w x->0<=i->i + dCQ (pC x)<=1000000->Calls Tryz.prog 98 #[conV x, .int .i64 i] w fun e w' => e = .returned (.bool (occC i (pC x)))/\Below w.heap.size w w'
theorem occurs1_any (P : Nat->Prop) (x : ConD) (H : OccAll x) (nb : Nat) (w : World) (i : Int) (h : IsCon P w x) (hN : w.heap[nb]? = some (.cells #[.int .i64 i] 3 (0, 0))) (h0 : 0<=i) (h1 : i + dCQ (pC x)<=1000000) :
 Calls Tryz.prog 125 (#[conV x] ++ #[.pointer (some ⟨nb, 0, none⟩)]) w fun e w' => e = .returned (.bool (occC i (pC x)))/\Below w.heap.size w w' := by
 obtain ⟨op, n, s, k, nv, ns, lv, l⟩ := x
 obtain ⟨ka, kc, kn, na, nc, a, c, rfl, _, rfl, _, hks, hcv, hll, hnn, hb0, gC, hsz0, HP, HC0, c0, c1, c2, c3, c4, c5⟩ := open_box h
 rw [hcv]
 clear hcv
 have hN2 := (hb0.block _ (hLQ hN)).trans hN
 have cN := cell_int hN2
 have HC := hJQ (H P _ i HC0.out h0 h1)
 rw [cVQ hks] at HC
 clear h hks HP HC0 hsz0 H gC hN hN2
 generalize pC (.mk op n s k (.slice na ns.length nc) ns (.slice a l.length c) l) = x at *
 go_enter Tryz.func125, Tryz.ntmps125
 go_wp2_with fail
 refine HC.out.mono ?_
 rintro e w2 ⟨rfl, hb2⟩
 have hbz := hb0.trans (hb2.mono hb0.size)
 clear HC
 go_wp2_with fail
 go_ret
 exact ⟨rfl, hbz⟩
theorem occL_any (P : Nat->Prop) (v : Value) (l : List ConD) (H : ∀ y ∈ l, OccAll y) (nb : Nat) (w : World) (i : Int) (h : RowP P w v l.length (cCQ l)) (hm : l.length<=9223372036854775807) (ha : ∀ y ∈ l, IsCon P w y) (hN : w.heap[nb]? = some (.cells #[.int .i64 i] 3 (0, 0))) (h0 : 0<=i) (h1 : i + depthCL (l.map pC)<=1000000) :
 Calls Tryz.prog 22 #[v, .func (.func 125) #[] #[.pointer (some ⟨nb, 0, none⟩)]] w fun e w' => e = .returned (.bool ((l.map pC).any (occC i)))/\Below w.heap.size w w' := by
 refine (containsC_any 125 #[.pointer (some ⟨nb, 0, none⟩)] (enters_of Tryz.func125 (by kernel_rfl) rfl) P v l (fun j V => ((l.map pC).take j).any (occC i) = false/\Below w.heap.size w V) (fun j V => (j < l.length->occC i (pC (l.getD j default)) = true)/\Below w.heap.size w V) w ⟨by rw [List.take_zero]; rfl, Below.refl _ _⟩ (fun j V hI => Kept.of_below hI.2) (fun j V hj hI => ?_) h hm ha).mono ?_
 ·have hmem := mem_getD l j hj
  have hm' : pC (l.getD j default) ∈ l.map pC := List.mem_map_of_mem hmem
  refine (occurs1_any P (l.getD j default) (H _ hmem) nb V i (iBQ (ha _ hmem) hI.2) ((hI.2.block _ (hLQ hN)).trans hN) h0 (by have := depthCL_ge' _ _ hm'; omega)).mono fun e V' ⟨he, hb⟩ => ⟨_, he, fun hb1 => ⟨fun _ => hb1, hI.2.trans (hb.mono hI.2.size)⟩, fun hb1 => ⟨?_, hI.2.trans (hb.mono hI.2.size)⟩⟩
  have hT : (l.map pC).take (j + 1) = (l.map pC).take j ++ [pC (l.getD j default)] := by
   rw [take_get default _ j (by rw [List.length_map]; exact hj), map_getD pC l j hj]
  rw [hT, List.any_append, hI.1, List.any_cons, List.any_nil, hb1]; rfl
 ·rintro e w' ⟨b, rfl, hy, hn⟩
  cases b
  ·obtain ⟨h1, h2⟩ := hn rfl
   rw [take_all] at h1
   exact ⟨by rw [h1], h2⟩
  ·obtain ⟨j, hj, h1, h2⟩ := hy rfl
   refine ⟨?_, h2⟩
   have : (l.map pC).any (occC i) = true := by
    rw [List.any_eq_true]; exact ⟨_, List.mem_map_of_mem (mem_getD l j hj), h1 hj⟩
   rw [this]
theorem occurs_any : ∀ x : ConD, OccAll x := by
 refine ConD.ind (fun op n s k nv ns lv l ih P w i h h0 h1 => ?_)
 obtain ⟨ka, kc, kn, na, nc, a, c, rfl, _, rfl, _, hks, hcv, hll, hnn, hb0, gC, hsz0, HP, HC0, c0, c1, c2, c3, c4, c5⟩ := open_box h
 rw [hcv]
 clear hcv
 rw [pMQ] at h1 ⊢
 rw [depthC_mk] at h1
 rw [occC_mk]
 have hgN := gAQ (w.alloc (.cells #[.int .i64 op, .int .i64 n, .string s, .slice ka kn kc, .slice na ns.length nc, .slice a l.length c] 28)) (.cells #[.int .i64 i] 3)
 have kN : ((w.alloc (.cells #[.int .i64 op, .int .i64 n, .string s, .slice ka kn kc, .slice na ns.length nc, .slice a l.length c] 28)).alloc (.cells #[.int .i64 i] 3)).heap[w.heap.size + 1]? = _ := (congrArg _ hsz0.symm).trans (nHQ (w.alloc (.cells #[.int .i64 op, .int .i64 n, .string s, .slice ka kn kc, .slice na ns.length nc, .slice a l.length c] 28)) (.cells #[.int .i64 i] 3))
 have kB := (hgN.block w.heap.size (by omega) (by nofun)).trans gC
 have hgW := gBQ (gAQ w (.cells #[.int .i64 op, .int .i64 n, .string s, .slice ka kn kc, .slice na ns.length nc, .slice a l.length c] 28)) hgN
 have hszW : ((w.alloc (.cells #[.int .i64 op, .int .i64 n, .string s, .slice ka kn kc, .slice na ns.length nc, .slice a l.length c] 28)).alloc (.cells #[.int .i64 i] 3)).heap.size = w.heap.size + 2 := by simp
 have HW := hJQ (h.lt.grown hgW (by nofun)).parts
 have HI := hJQ ih
 have HB : ∀ W, Hid (Calls Tryz.prog 124 #[.int .i64 op] W fun e w' => e = .returned (.bool (binderB op))/\w' = W) := fun W => hJQ (opBinder_any 124 (.inl rfl) op W)
 clear h hks HP HC0 hsz0 gC ih c0 c1 c2 c3 c4 c5 hb0 hgN
 have HGW := hJQ hgW
 have hbW := gUQ (B := w.heap.size) hgW (nLQ _) (by nofun)
 by_cases q1 : op = 1
 ·subst q1
  rw [if_pos rfl]
  go_enter Tryz.func98, Tryz.ntmps98
  go_upto_region 1 with fail
  generalize (w.alloc (.cells #[.int .i64 1, .int .i64 n, .string s, .slice ka kn kc, .slice na ns.length nc, .slice a l.length c] 28)).alloc (.cells #[.int .i64 i] 3) = W at *
  obtain ⟨c0, c1, c2, c3, c4, c5⟩ := cnQ kB
  have cN := cell_int kN
  go_wp2_with fail
  go_ret
  exact ⟨rfl, hbW⟩
 ·have q1' : (op == 1) = false := nEQ q1
  rw [if_neg q1]
  clear q1
  obtain ⟨bb, hbb⟩ : ∃ b, binderB op = b := ⟨_, rfl⟩
  have HB : ∀ W, Hid (Calls Tryz.prog 124 #[.int .i64 op] W fun e w' => e = .returned (.bool bb)/\w' = W) := fun W => by rw [← hbb]; exact HB W
  rw [hbb]
  clear hbb
  cases bb
  ·rw [show (if (false : Bool) = true then i + 1 else i) = i from rfl]
   go_enter Tryz.func98, Tryz.ntmps98
   go_upto_region 1 with fail
   generalize (w.alloc (.cells #[.int .i64 op, .int .i64 n, .string s, .slice ka kn kc, .slice na ns.length nc, .slice a l.length c] 28)).alloc (.cells #[.int .i64 i] 3) = W at *
   obtain ⟨c0, c1, c2, c3, c4, c5⟩ := cnQ kB
   have cN := cell_int kN
   have fN : W.frozen? ⟨w.heap.size + 1, 0, none⟩ = false := Lib.frozen_of_heap kN 0
   have HB2 := HB W
   have HL := hJQ (occL_any _ _ l (fun y hy => HI.out y hy) (w.heap.size + 1) W i HW.out.row hll HW.out.all kN h0 (by omega))
   obtain ⟨q, hq⟩ : ∃ q, (l.map pC).any (occC i) = q := ⟨_, rfl⟩
   rw [hq] at HL
   have HQ : Hid (Ending.returned (.bool q) = Ending.returned (.bool ((l.map pC).any (occC i)))) := by show _ = _; rw [hq]
   clear hq
   go_wp2_with fail
   refine HB2.out.mono ?_
   rintro e w2 ⟨rfl, rfl⟩
   clear HB
   go_wp2_with fail
   refine HL.out.mono ?_
   rintro e w3 ⟨rfl, hb3⟩
   have hbz := hbW.trans (hb3.mono hbW.size)
   clear HL HB2
   go_wp2_with fail
   go_ret
   exact ⟨HQ.out, hbz⟩
  ·rw [show (if (true : Bool) = true then i + 1 else i) = i + 1 from rfl]
   go_enter Tryz.func98, Tryz.ntmps98
   go_upto_region 1 with fail
   generalize (w.alloc (.cells #[.int .i64 op, .int .i64 n, .string s, .slice ka kn kc, .slice na ns.length nc, .slice a l.length c] 28)).alloc (.cells #[.int .i64 i] 3) = W at *
   obtain ⟨c0, c1, c2, c3, c4, c5⟩ := cnQ kB
   have cN := cell_int kN
   have fN : W.frozen? ⟨w.heap.size + 1, 0, none⟩ = false := Lib.frozen_of_heap kN 0
   have HB2 := HB W
   have hwr : IntKind.i64.wrap (i + 1) = i + 1 := by rw [IntKind.wrap_i64]; omega
   have hS := gSQ W (w.heap.size + 1) 0 (.int .i64 (i + 1))
   have kN2 := heap_set_same (i := 0) kN (.int .i64 (i + 1))
   have hBS : Below w.heap.size w (W.setCell ⟨w.heap.size + 1, 0, none⟩ (.int .i64 (i + 1))) := hbW.trans (gUQ (B := w.heap.size) hS (by omega) (fun q hq => by have e2 : w.heap.size + 1 = q := oJQ hq; omega))
   have kB2 := (hS.block w.heap.size (by omega) (fun e => by have e2 : w.heap.size = w.heap.size + 1 := oJQ e; omega)).trans kB
   obtain ⟨d0, d1, d2, d3, d4, d5⟩ := cnQ kB2
   have hnp : ∀ q, some (w.heap.size + 1) = some q->¬ (P q/\q < w.heap.size) := fun q hq hp => by have e2 : w.heap.size + 1 = q := oJQ hq; have := hp.2; omega
   have HL := hJQ (occL_any _ _ l (fun y hy => HI.out y hy) (w.heap.size + 1) _ (i + 1) (HW.out.row.grown hS hnp) hll (fun y hy => (HW.out.all y hy).grown hS hnp) kN2 (by omega) (by omega))
   obtain ⟨q, hq⟩ : ∃ q, (l.map pC).any (occC (i + 1)) = q := ⟨_, rfl⟩
   rw [hq] at HL
   have HQ : Hid (Ending.returned (.bool q) = Ending.returned (.bool ((l.map pC).any (occC (i + 1))))) := by show _ = _; rw [hq]
   clear hq
   clear hS hnp
   go_wp2_with fail
   refine HB2.out.mono ?_
   rintro e w2 ⟨rfl, rfl⟩
   clear HB
   go_wp2_with fail
   refine HL.out.mono ?_
   rintro e w3 ⟨rfl, hb3⟩
   have hbz := hBS.trans (hb3.mono hBS.size)
   clear HL HB2
   go_wp2_with fail
   go_ret
   exact ⟨HQ.out, hbz⟩
end Go.Proofs.YtkiffgdinmpljaaGreatDoor
