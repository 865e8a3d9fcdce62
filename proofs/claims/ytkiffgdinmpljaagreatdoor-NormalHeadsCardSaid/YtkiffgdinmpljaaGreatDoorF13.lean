/- rebuild, replaced. Expanded by mac.py. What rebuild makes with shifted's closure and with Subst's, plain. shifted, Subst$1. Printed by gen_subst.py, expanded by mac.py. -/
import Derived.Test.YtkiffgdinmpljaaGreatDoorF12
import Derived.Test.YtkiffgdinmpljaaGreatDoorF11
set_option linter.unusedVariables false
set_option linter.unusedSimpArgs false
namespace Go.Proofs.YtkiffgdinmpljaaGreatDoor
open Go Go.RowKit
set_option maxHeartbeats 8000000
set_option maxRecDepth 100000
theorem rebuild_any (P : Nat->Prop) (mb g : Nat) (lb : Array Value) (eg : ∀ args w, (callFunc g args).run Tryz.prog w = .ok (.enter g args) w) (f : Cn->Int->Cn) (w0 : World) (hP : ¬ P mb) (hL : LeafAt P w0 mb g lb f) : ∀ x : ConD, RebAll P w0 mb g lb f x := by
 refine ConD.ind (fun op n s k nv ns lv l ih => ?_)
 intro w left d HY
 by_cases hl : 0 < left
 ·by_cases hop : op = 1 ∨ op = 2
  ·have := reb_leaf P mb g lb eg f w0 hL op n s k nv ns lv l w left d HY hl hop
   rw [pMQ] at this ⊢
   rw [rebC_leaf _ _ _ _ _ _ _ _ hop]
   exact this
  ·exact reb_node P mb g lb f w0 hP op n s k nv ns lv l ih w left d HY hl hop
 ·exact reb_none P mb g lb _ op n s k nv ns lv l w left d HY.2.1 HY.2.2.2.2.1 (by omega)
def ReplOk (T : Cn) (w : World) (e : Ending) (w' : World) : Prop :=
 ∃ (d : ConD) (er : Int), e = .returned (.tuple #[conV d, .int .i64 er])/\IsCon (fun b => w.heap.size<=b) w' d/\Below w.heap.size w w'/\(valC T = true->er = 0/\pC d = T)/\(valC T = false->er = 6/\(pC d).op = 0)
theorem ConD.op_pure (d : ConD) : (pC d).op = d.op := by cases d; rw [pMQ]; rfl
theorem val_size {T : Cn} (h : ¬ sizeC T<=20000) : valC T = false := by
 show (decide _ && decide _ && _) = false
 rw [decide_eq_false h]; rfl
theorem val_iff {T : Cn} : valC T = true ↔ sizeC T<=20000/\dCQ T<=400/\frmC T = true := by
 show (decide _ && decide _ && _) = true ↔ _
 simp only [Bool.and_eq_true, decide_eq_true_eq, and_assoc]
theorem replaced_any (P : Nat->Prop) (x : ConD) (g : Nat) (lb : Array Value) (eg : ∀ args w, (callFunc g args).run Tryz.prog w = .ok (.enter g args) w) (f : Cn->Int->Cn) (w : World) (hE : EnvN w) (h : IsCon P w x) (hv : valC (pC x) = true) (hbT : bndC (rebC f 0 (pC x)))
 (hL : ∀ (mb : Nat) (W : World), w.heap.size<=mb->w.grownBy W none->LeafAt (fun b => P b/\b < w.heap.size) W mb g lb f) :
 Calls Tryz.prog 66 #[conV x, .func (.func g) #[] lb] w (ReplOk (rebC f 0 (pC x)) w) := by
 obtain ⟨hv1, hv2, hv3⟩ := val_iff.1 hv
 have hcl := h.lt
 obtain ⟨op, n, s, k, nv, ns, lv, l⟩ := x
 obtain ⟨ka, kc, kn, na, nc, a, c, rfl, _, rfl, _, hks, hcv, hll, hnn, hb0, gC, hsz0, HP, HC0, c0, c1, c2, c3, c4, c5⟩ := open_box h
 rw [hcv]
 clear hcv
 have hPW := cVQ (op := op) (n := n) (s := s) (nv := .slice na ns.length nc) (lv := .slice a l.length c) (ns := ns) (l := l) hks
 have hg1 := gAQ (w.alloc (.cells #[.int .i64 op, .int .i64 n, .string s, .slice ka kn kc, .slice na ns.length nc, .slice a l.length c] 28)) (.cells #[.int .i64 0, .int .i64 0, .string ⟨#[]⟩, .slice none 0 0, .slice none 0 0, .slice none 0 0] 28)
 have hg2 := gAQ ((w.alloc (.cells #[.int .i64 op, .int .i64 n, .string s, .slice ka kn kc, .slice na ns.length nc, .slice a l.length c] 28)).alloc (.cells #[.int .i64 0, .int .i64 0, .string ⟨#[]⟩, .slice none 0 0, .slice none 0 0, .slice none 0 0] 28)) (.cells #[.func (.func g) #[] lb, .int .i64 20000] 88)
 have s2 : ((w.alloc (.cells #[.int .i64 op, .int .i64 n, .string s, .slice ka kn kc, .slice na ns.length nc, .slice a l.length c] 28)).alloc (.cells #[.int .i64 0, .int .i64 0, .string ⟨#[]⟩, .slice none 0 0, .slice none 0 0, .slice none 0 0] 28)).heap.size = w.heap.size + 1 + 1 := by simp
 have kR0 : ((w.alloc (.cells #[.int .i64 op, .int .i64 n, .string s, .slice ka kn kc, .slice na ns.length nc, .slice a l.length c] 28)).alloc (.cells #[.int .i64 0, .int .i64 0, .string ⟨#[]⟩, .slice none 0 0, .slice none 0 0, .slice none 0 0] 28)).heap[w.heap.size + 1]? = _ := (congrArg _ hsz0.symm).trans (nHQ (w.alloc (.cells #[.int .i64 op, .int .i64 n, .string s, .slice ka kn kc, .slice na ns.length nc, .slice a l.length c] 28)) (.cells #[.int .i64 0, .int .i64 0, .string ⟨#[]⟩, .slice none 0 0, .slice none 0 0, .slice none 0 0] 28))
 have kR := (hg2.block (w.heap.size + 1) (by omega) (by nofun)).trans kR0
 have kB := (hg2.block w.heap.size (by omega) (by nofun)).trans ((hg1.block w.heap.size (by omega) (by nofun)).trans gC)
 have kM : MkAt (((w.alloc (.cells #[.int .i64 op, .int .i64 n, .string s, .slice ka kn kc, .slice na ns.length nc, .slice a l.length c] 28)).alloc (.cells #[.int .i64 0, .int .i64 0, .string ⟨#[]⟩, .slice none 0 0, .slice none 0 0, .slice none 0 0] 28)).alloc (.cells #[.func (.func g) #[] lb, .int .i64 20000] 88)) (w.heap.size + 1 + 1) g lb 20000 := by
  have := nHQ ((w.alloc (.cells #[.int .i64 op, .int .i64 n, .string s, .slice ka kn kc, .slice na ns.length nc, .slice a l.length c] 28)).alloc (.cells #[.int .i64 0, .int .i64 0, .string ⟨#[]⟩, .slice none 0 0, .slice none 0 0, .slice none 0 0] 28)) (.cells #[.func (.func g) #[] lb, .int .i64 20000] 88)
  rw [s2] at this
  exact this
 have hgW := gBQ (gBQ (gAQ w (.cells #[.int .i64 op, .int .i64 n, .string s, .slice ka kn kc, .slice na ns.length nc, .slice a l.length c] 28)) hg1) hg2
 have hszW : (((w.alloc (.cells #[.int .i64 op, .int .i64 n, .string s, .slice ka kn kc, .slice na ns.length nc, .slice a l.length c] 28)).alloc (.cells #[.int .i64 0, .int .i64 0, .string ⟨#[]⟩, .slice none 0 0, .slice none 0 0, .slice none 0 0] 28)).alloc (.cells #[.func (.func g) #[] lb, .int .i64 20000] 88)).heap.size = w.heap.size + 1 + 1 + 1 := by simp
 have HC := rebuild_any (fun b => P b/\b < w.heap.size) (w.heap.size + 1 + 1) g lb eg f _ (fun hp => by have := hp.2; omega) (hL (w.heap.size + 1 + 1) _ (by omega) hgW) _ _ 20000 0 ⟨⟨rfl, rfl, rfl, Nat.le_refl _, fun _ _ _ => rfl⟩, hcl.grown hgW (by nofun), hv3, hv1, kM, by omega, by omega, by omega, by omega⟩
 rw [hPW] at HC
 have HC := hJQ HC
 have HE := hJQ hE
 generalize rebC f 0 (pC (.mk op n s k (.slice na ns.length nc) ns (.slice a l.length c) l)) = T at *
 clear h hks hL hcl hPW hv hv1 hv2 hv3 c0 c1 c2 c3 c4 c5 hg1 hg2 s2 kR0 gC HP HC0 hb0 hsz0
 obtain ⟨c0, c1, c2, c3, c4, c5⟩ := cnQ kB
 go_enter Tryz.func66, Tryz.ntmps66
 go_wp2_with fail
 refine HC.out.mono ?_
 rintro e w1 ⟨dd, lj, rfl, hdd, hm1, hgj, hz0, hz1, hyes, hno⟩
 obtain ⟨xop, xn, xs, xk, xns, xl, xka, xkn, xkc, xna, xnc, xla, xlc, rfl, hxk, _⟩ := cSQ hdd
 have hxv := cVQ (op := xop) (n := xn) (s := xs) (nv := .slice xna xns.length xnc) (lv := .slice xla xl.length xlc) (ns := xns) (l := xl) hxk
 rw [hxv]
 have hs1 := hgj.size
 generalize (((w.alloc (.cells #[.int .i64 op, .int .i64 n, .string s, .slice ka kn kc, .slice na ns.length nc, .slice a l.length c] 28)).alloc (.cells #[.int .i64 0, .int .i64 0, .string ⟨#[]⟩, .slice none 0 0, .slice none 0 0, .slice none 0 0] 28)).alloc (.cells #[.func (.func g) #[] lb, .int .i64 20000] 88)) = W at *
 have kR1 := (hgj.block (w.heap.size + 1) (by omega) (fun e => by have e2 : w.heap.size + 1 = w.heap.size + 1 + 1 := oJQ e; omega)).trans kR
 have hgA := gAQ w1 (.cells #[.int .i64 xop, .int .i64 xn, .string xs, .slice xka xkn xkc, .slice xna xns.length xnc, .slice xla xl.length xlc] 28)
 have hszA : (w1.alloc (.cells #[.int .i64 xop, .int .i64 xn, .string xs, .slice xka xkn xkc, .slice xna xns.length xnc, .slice xla xl.length xlc] 28)).heap.size = w1.heap.size + 1 := by simp
 have kX := nHQ w1 (.cells #[.int .i64 xop, .int .i64 xn, .string xs, .slice xka xkn xkc, .slice xna xns.length xnc, .slice xla xl.length xlc] 28)
 have kRA := (hgA.block _ (hLQ kR1) (by nofun)).trans kR1
 have kMA := hm1.grown hgA (by nofun)
 have hdA := hdd.grown hgA (by nofun)
 have hgT : Below w.heap.size w (w1.alloc (.cells #[.int .i64 xop, .int .i64 xn, .string xs, .slice xka xkn xkc, .slice xna xns.length xnc, .slice xla xl.length xlc] 28)) := ((gUQ (B := w.heap.size) hgW (nLQ _) (by nofun)).trans (gUQ hgj (by omega) (fun q hq => by have e2 : w.heap.size + 1 + 1 = q := oJQ hq; omega))).trans (gUQ hgA (by omega) (by nofun))
 obtain ⟨x0, x1, x2, x3, x4, x5⟩ := cnQ kX
 obtain ⟨m0, m1, _⟩ := kMA.cells
 clear HC kB c0 c1 c2 c3 c4 c5 kM kR kR1 hm1 hdd hgA hgj hgW
 by_cases hlj : lj < 0
 ·have HV0 : valC T = false := val_size (fun h => by have := (hyes (by omega)).2; omega)
  have hrow := gRQ (w1.alloc (.cells #[.int .i64 xop, .int .i64 xn, .string xs, .slice xka xkn xkc, .slice xna xns.length xnc, .slice xla xl.length xlc] 28)) (w.heap.size + 1) #[.int .i64 0, .int .i64 0, .string ⟨#[]⟩, .slice none 0 0, .slice none 0 0, .slice none 0 0]
  have HRF := hJQ (setRow_heap (w1.alloc (.cells #[.int .i64 xop, .int .i64 xn, .string xs, .slice xka xkn xkc, .slice xna xns.length xnc, .slice xla xl.length xlc] 28)) (w.heap.size + 1) _ #[.int .i64 0, .int .i64 0, .string ⟨#[]⟩, .slice none 0 0, .slice none 0 0, .slice none 0 0] _ _ kRA)
  have HBF := hJQ (hgT.trans (gUQ (B := w.heap.size) hrow (by omega) (fun q hq => by have e2 : w.heap.size + 1 = q := oJQ hq; omega)))
  clear hrow hyes hno hdA hxv hgT
  go_wp2_with (refine wpList_store_row rfl 28 _ _ rfl (w.heap.size + 1) _ rfl rfl 28 _ kRA cIQ rfl (all_one _ rfl) ?_)
  refine bodyPost_ret (v := .tuple #[.agg #[.int .i64 0, .int .i64 0, .string ⟨#[]⟩, .slice none 0 0, .slice none 0 0, .slice none 0 0], .int .i64 6]) ?_ rfl ⟨_, 6, rfl, zero_con _ _, HBF.out, (fun h => by rw [HV0] at h; cases h), fun _ => ⟨rfl, by rw [pMQ]; rfl⟩⟩
  rw [results_cell_tmp (p := 4) (u := 5) (ty := 28) rfl]
  simp [asAddr, run_loadVar_row _ _ _ _ _ _ _ HRF.out Tryz.underlying28 rfl cIQ, Result.andThen]
 ·have hT20 : (sizeC T : Int)<=20000 := by
   by_cases hh : (sizeC T : Int)<=20000
   ·exact hh
   ·have := hno hh; omega
  obtain ⟨hpd, _⟩ := hyes hT20
  have HVd := valid_any _ _ _ (HE.out.below hgT) hdA (by rw [hpd]; exact hbT) (by rw [hpd]; omega)
  rw [hxv, hpd] at HVd
  have HVd := hJQ HVd
  obtain ⟨bv, hbv⟩ : ∃ b, valC T = b := ⟨_, rfl⟩
  rw [hbv] at HVd
  have HBV := hJQ hbv
  clear hyes hno hbv
  go_wp2_with fail
  refine HVd.out.mono ?_
  rintro e w5 ⟨rfl, hb5⟩
  have kX5 := (hb5.block _ (hLQ kX)).trans kX
  have kR5 := (hb5.block _ (hLQ kRA)).trans kRA
  have hd5 := iBQ hdA hb5
  have hg5 := hgT.trans (hb5.mono hgT.size)
  have hs5 := hb5.size
  obtain ⟨y0, y1, y2, y3, y4, y5⟩ := cnQ kX5
  clear HVd x0 x1 x2 x3 x4 x5 m0 m1 kX kRA kMA hdA hgT hb5
  cases bv
  ·have hrow := gRQ w5 (w.heap.size + 1) #[.int .i64 0, .int .i64 0, .string ⟨#[]⟩, .slice none 0 0, .slice none 0 0, .slice none 0 0]
   have HRF := hJQ (setRow_heap w5 (w.heap.size + 1) _ #[.int .i64 0, .int .i64 0, .string ⟨#[]⟩, .slice none 0 0, .slice none 0 0, .slice none 0 0] _ _ kR5)
   have HBF := hJQ (hg5.trans (gUQ (B := w.heap.size) hrow (by omega) (fun q hq => by have e2 : w.heap.size + 1 = q := oJQ hq; omega)))
   clear hrow hd5 hxv hg5
   go_wp2_with (refine wpList_store_row rfl 28 _ _ rfl (w.heap.size + 1) _ rfl rfl 28 _ kR5 cIQ rfl (all_one _ rfl) ?_)
   refine bodyPost_ret (v := .tuple #[.agg #[.int .i64 0, .int .i64 0, .string ⟨#[]⟩, .slice none 0 0, .slice none 0 0, .slice none 0 0], .int .i64 6]) ?_ rfl ⟨_, 6, rfl, zero_con _ _, HBF.out, (fun h => by rw [HBV.out] at h; cases h), fun _ => ⟨rfl, by rw [pMQ]; rfl⟩⟩
   rw [results_cell_tmp (p := 4) (u := 5) (ty := 28) rfl]
   simp [asAddr, run_loadVar_row _ _ _ _ _ _ _ HRF.out Tryz.underlying28 rfl cIQ, Result.andThen]
  ·have hrow := gRQ w5 (w.heap.size + 1) #[.int .i64 xop, .int .i64 xn, .string xs, .slice xka xkn xkc, .slice xna xns.length xnc, .slice xla xl.length xlc]
   have HRF := hJQ (setRow_heap w5 (w.heap.size + 1) _ #[.int .i64 xop, .int .i64 xn, .string xs, .slice xka xkn xkc, .slice xna xns.length xnc, .slice xla xl.length xlc] _ _ kR5)
   have HBF := hJQ (hg5.trans (gUQ (B := w.heap.size) hrow (by omega) (fun q hq => by have e2 : w.heap.size + 1 = q := oJQ hq; omega)))
   have HDF := hJQ ((hd5.grown hrow (fun q hq hp => by have e2 : w.heap.size + 1 = q := oJQ hq; have hp : W.heap.size<=q := hp; omega)).mono (Q := fun b => w.heap.size<=b) (fun b hb _ => by have hb : W.heap.size<=b := hb; show w.heap.size<=b; omega))
   have HXV := hJQ hxv
   clear hrow hd5 hxv hg5
   go_wp2_with (refine wpList_store_row rfl 28 _ _ rfl (w.heap.size + 1) _ rfl rfl 28 _ kR5 cIQ rfl (all_one _ rfl) ?_)
   refine bodyPost_ret (v := .tuple #[.agg #[.int .i64 xop, .int .i64 xn, .string xs, .slice xka xkn xkc, .slice xna xns.length xnc, .slice xla xl.length xlc], .int .i64 0]) ?_ rfl ⟨_, 0, by rw [HXV.out], HDF.out, HBF.out, (fun _ => ⟨rfl, hpd⟩), (fun h => by rw [HBV.out] at h; cases h)⟩
   rw [results_cell_tmp (p := 4) (u := 5) (ty := 28) rfl]
   simp [asAddr, run_loadVar_row _ _ _ _ _ _ _ HRF.out Tryz.underlying28 rfl cIQ, Result.andThen]
theorem frm_leaf {op n : Int} {s : ByteArray} {k : Kd} {ns : List ByteArray} {l : List Cn} (h : frmC (.mk op n s k ns l) = true) (ho : op = 1 ∨ op = 2) : ns = []/\l = [] := by
 refine ⟨?_, (fSQ h).2.2.2.2 ho⟩
 obtain ⟨h1, h2⟩ := (formC_iff cstB labsB ..).1 h
 obtain ⟨a1, a2, a3, a4, a5⟩ := node_parts h1
 have : labelledB op = false := by rcases ho with rfl | rfl <;> rfl
 rw [this] at a5
 exact List.isEmpty_iff.1 a5
theorem deepC_eq (op : Int) (d : Nat) : deepC op d = if binderB op = true then d + 1 else d := rfl
theorem reb_shift (b : Int) : ∀ (c : Cn) (f d : Nat), frmC c = true->rebC (leafS b f) d c = shiftC b (f + d) c := by
 refine Cn.ind (fun op n s k ns l ih f d h => ?_)
 rw [shiftC_mk]
 by_cases ho : op = 1 ∨ op = 2
 ·rw [rebC_leaf _ _ _ _ _ _ _ _ ho]
  obtain ⟨rfl, rfl⟩ := frm_leaf h ho
  unfold leafS
  rcases ho with rfl | rfl
  ·rw [if_pos rfl]
   by_cases hc : (f : Int)<=n - d
   ·rw [if_pos ⟨rfl, hc⟩, if_pos (by omega)]; rfl
   ·rw [if_neg (fun hh => hc hh.2), if_neg (by omega)]; rfl
  ·rw [if_neg (fun hh => by have := hh.1; simp [Cn.op] at this), if_neg (by decide)]; rfl
 ·rw [rebC_node _ _ _ _ _ _ _ _ ho, if_neg (fun hh => ho (.inl hh)), deepC_eq]
  have hl := (fSQ h).2.2.2.1
  congr 1
  refine List.map_congr_left (fun x hx => ?_)
  by_cases hb : binderB op = true
  ·rw [if_pos hb, if_pos hb]
   have := ih x hx f (d + 1) (hl x hx)
   rw [← Nat.add_assoc] at this
   exact this
  ·rw [if_neg hb, if_neg hb]
   exact ih x hx f d (hl x hx)
def leafT (a : List Cn) (c : Cn) (d : Int) : Cn := if c.op ≠ 1 ∨ c.n - d < 0 then .mk c.op c.n c.s c.k [] [] else if (a.length : Int)<=c.n - d then varC (c.n - a.length) else rebC (leafS d 0) 0 (a.getD (c.n - d).toNat default)
theorem reb_subst (a : List Cn) (ha : ∀ x ∈ a, frmC x = true) : ∀ (c : Cn) (d : Nat), frmC c = true->rebC (leafT a) d c = sC9 a d c := by
 refine Cn.ind (fun op n s k ns l ih d h => ?_)
 rw [substC_mk]
 by_cases ho : op = 1 ∨ op = 2
 ·rw [rebC_leaf _ _ _ _ _ _ _ _ ho]
  obtain ⟨rfl, rfl⟩ := frm_leaf h ho
  unfold leafT
  rcases ho with rfl | rfl
  ·rw [if_pos rfl]
   by_cases h1 : n < d
   ·rw [if_pos (show ((Cn.mk 1 n s k [] []).op ≠ 1 ∨ (Cn.mk 1 n s k [] []).n - (d : Int) < 0) from .inr (by show n - (d : Int) < 0; omega)), if_pos h1]; rfl
   ·rw [if_neg (show ¬ ((Cn.mk 1 n s k [] []).op ≠ 1 ∨ (Cn.mk 1 n s k [] []).n - (d : Int) < 0) from fun hh => by rcases hh with hh | hh; exact hh rfl; have hh : n - (d : Int) < 0 := hh; omega), if_neg h1]
    show (if (a.length : Int)<=n - d then varC (n - a.length) else rebC (leafS d 0) 0 (a.getD (n - d).toNat default)) = _
    by_cases h2 : (a.length : Int)<=n - d
    ·rw [if_pos h2, if_neg (by omega)]
    ·rw [if_neg h2, if_pos (by omega)]
     have hlt : (n - d).toNat < a.length := by omega
     have hm := mem_getD a (n - d).toNat hlt
     have := reb_shift d (a.getD (n - d).toNat default) 0 0 (ha _ hm)
     exact this
  ·exact (if_pos (Or.inl (fun e => by have e2 : (2 : Int) = 1 := e; omega))).trans (if_neg (by decide)).symm
 ·rw [rebC_node _ _ _ _ _ _ _ _ ho, if_neg (fun hh => ho (.inl hh)), deepC_eq]
  have hl := (fSQ h).2.2.2.1
  congr 1
  refine List.map_congr_left (fun x hx => ?_)
  by_cases hb : binderB op = true
  ·rw [if_pos hb, if_pos hb]
   exact ih x hx (d + 1) (hl x hx)
  ·rw [if_neg hb, if_neg hb]
   exact ih x hx d (hl x hx)
theorem sizeCL_map (g : Cn->Cn) (l : List Cn) (h : ∀ x ∈ l, sizeC (g x) = sizeC x) : sizeCL (l.map g) = sizeCL l := by
 induction l with
 | nil => rfl
 | cons x r ih => rw [List.map_cons, sizeCL_cons, sizeCL_cons, h x (by simp), ih (fun y hy => h y (by simp [hy]))]
theorem shift_size (b : Int) : ∀ (c : Cn) (f : Nat), frmC c = true->sizeC (shiftC b f c) = sizeC c := by
 refine Cn.ind (fun op n s k ns l ih f h => ?_)
 rw [shiftC_mk]
 by_cases ho : op = 1
 ·rw [if_pos ho]
  obtain ⟨_, rfl⟩ := frm_leaf h (.inl ho)
  split
  ·unfold varC; rw [sMQ, sMQ]
  ·rfl
 ·rw [if_neg ho, sMQ, sMQ, sizeCL_map _ _ (fun x hx => ih x hx _ ((fSQ h).2.2.2.1 x hx))]
theorem one_size (op n : Int) (s : ByteArray) (k : Kd) (ns : List ByteArray) : sizeC (.mk op n s k ns []) = 1 := by rw [sMQ, sizeCL_nil]
theorem leafS_size (b f : Int) (c : Cn) (d : Int) : sizeC (leafS b f c d) = 1 := by
 unfold leafS
 split
 ·exact one_size ..
 ·exact one_size ..
theorem leafT_size (a : List Cn) (ha : ∀ x ∈ a, frmC x = true/\sizeC x<=20000) (c : Cn) (d : Nat) : sizeC (leafT a c d)<=20000 := by
 unfold leafT
 split
 ·rw [one_size]; decide
 ·rename_i h1
  split
  ·unfold varC; rw [one_size]; decide
  ·rename_i h2
   have hlt : (c.n - d).toNat < a.length := by omega
   have hm := mem_getD a (c.n - d).toNat hlt
   have h3 := reb_shift d (a.getD (c.n - d).toNat default) 0 0 (ha _ hm).1
   rw [show rebC (leafS (d : Int) 0) 0 (a.getD (c.n - d).toNat default) = shiftC d (0 + 0) (a.getD (c.n - d).toNat default) from h3, shift_size _ _ _ (ha _ hm).1]
   exact (ha _ hm).2
theorem RowP.lt {P : Nat->Prop} {w : World} {v : Value} {n : Nat} {xs : List Value} (h : RowP P w v n xs) : RowP (fun b => P b/\b < w.heap.size) w v n xs := h.mono fun _ hp hlt => ⟨hp, hlt⟩
theorem shifted_any (b f : Int) (w : World) :
 Calls Tryz.prog 70 #[.int .i64 b, .int .i64 f] w fun e w' => e = .returned (.func (.func 110) #[] #[.pointer (some ⟨w.heap.size + 1, 0, none⟩), .pointer (some ⟨w.heap.size, 0, none⟩)])/\w' = (w.alloc (.cells #[.int .i64 b] 3)).alloc (.cells #[.int .i64 f] 3) := by
 go_enter Tryz.func70, Tryz.ntmps70
 go_wp2_with fail
 go_ret
 exact ⟨by simp, rfl⟩
theorem leafAt_shift (P : Nat->Prop) (w0 : World) (mb fb bb : Nat) (b f : Int) (hF : w0.heap[fb]? = some (.cells #[.int .i64 f] 3 (0, 0))) (hB : w0.heap[bb]? = some (.cells #[.int .i64 b] 3 (0, 0))) (h1 : fb ≠ mb) (h2 : bb ≠ mb) (hb : -1000000<=b) (hb1 : b<=1000000) :
 LeafAt P w0 mb 110 #[.pointer (some ⟨fb, 0, none⟩), .pointer (some ⟨bb, 0, none⟩)] (leafS b f) := by
 intro W x d hg h hf hop hd0 hd1
 refine ⟨by rw [leafS_size]; decide, ?_⟩
 have hs : pC x = .mk x.op x.n x.s (pK x.k) x.ns (x.l.map pC) := by cases x; exact pMQ ..
 have hfs := hf
 rw [hs] at hfs
 have hz := fSQ hfs
 have hn : -1000000<=x.n/\x.n<=1000000 := by
  rcases hop with ho | ho
  ·have := hz.2.2.1 (.inl ho); omega
  ·obtain ⟨h1, _⟩ := (formC_iff cstB labsB ..).1 hfs
   have a2 := (node_parts h1).2.1
   rw [if_neg (by omega)] at a2
   have : x.n = 0 := beq_iff_eq.1 a2
   omega
 exact shifted1_any P x fb bb b f d W h (by rw [hs]; exact hz.1) ((hg.block _ (hLQ hF) (fun e => h1 (oJQ e))).trans hF) ((hg.block _ (hLQ hB) (fun e => h2 (oJQ e))).trans hB) hn.1 hn.2 hb hb1 (by omega) (by omega)
theorem subst1_any (P : Nat->Prop) (x : ConD) (lb0 : Nat) (ga : Option Addr) (gc : Nat) (gl : List ConD) (w : World) (d : Nat) (h : IsCon P w x) (hf : frmC (pC x) = true) (hop : x.op = 1 ∨ x.op = 2) (hBx : w.heap[lb0]? = some (.cells #[.slice ga gl.length gc] 26 (0, 0))) (hR : RowP P w (.slice ga gl.length gc) gl.length (cCQ gl)) (hA : ∀ y ∈ gl, IsCon P w y) (hV : ∀ y ∈ gl.map pC, valC y = true) (hlen : gl.length<=1000) (hd1 : d<=1000) :
 Calls Tryz.prog 67 (#[conV x, .int .i64 d] ++ #[.pointer (some ⟨lb0, 0, none⟩)]) w fun e w' => ConOut (fun b => w.heap.size<=b) (leafT (gl.map pC) (pC x) d) e w'/\Below w.heap.size w w' := by
 obtain ⟨op, n, s, k, nv, ns, lv, l⟩ := x
 have hop : op = 1 ∨ op = 2 := hop
 rw [pMQ] at hf ⊢
 have hz := fSQ hf
 have hn : -1000000<=n/\n<=1000000 := by
  rcases hop with ho | ho
  ·have := hz.2.2.1 (.inl ho); omega
  ·obtain ⟨h1, _⟩ := (formC_iff cstB labsB ..).1 hf
   have a2 := (node_parts h1).2.1
   rw [if_neg (by omega)] at a2
   have : n = 0 := beq_iff_eq.1 a2
   omega
 obtain ⟨hn0, hn1⟩ := hn
 have hkz := hz.1
 obtain ⟨ka, kc, kn, na, nc, a, c, rfl, _, rfl, _, hks, hcv, hll, hnn, hb0, gC, hsz0, HP, HC0, c0, c1, c2, c3, c4, c5⟩ := open_box h
 rw [hcv]
 clear hcv
 have hPW := cVQ (op := op) (n := n) (s := s) (nv := .slice na ns.length nc) (lv := .slice a l.length c) (ns := ns) (l := l) hks
 obtain ⟨hg1, kR, kB, hszW⟩ := fo_box gC
 have hg2 := gBQ (gAQ w (.cells #[.int .i64 op, .int .i64 n, .string s, .slice ka kn kc, .slice na ns.length nc, .slice a l.length c] 28)) hg1
 have kL := (hg2.block lb0 (hLQ hBx) (by nofun)).trans hBx
 have hcc := h.grown hg2 (by nofun)
 have hbW := gUQ (B := w.heap.size) hg2 (nLQ _) (by nofun)
 have HLeaf := leafOf_any P _ _ hcc (by rw [pMQ]; exact hkz)
 rw [hPW] at HLeaf
 have HLeaf := hJQ HLeaf
 have HVar : Hid (∀ W : World, Calls Tryz.prog 69 #[.int .i64 (n - gl.length)] W fun e w' => ConOut (fun b => W.heap.size<=b) (varC (n - gl.length)) e w'/\Below W.heap.size W w') := fun W => variable_any _ _ W
 have HSh := hJQ (fun W : World => shifted_any d 0 W)
 have HRr := hJQ (hR.lt.grown hg2 (by nofun))
 have HAa : Hid (∀ y ∈ gl, IsCon (fun b => P b/\b < w.heap.size) ((w.alloc (.cells #[.int .i64 op, .int .i64 n, .string s, .slice ka kn kc, .slice na ns.length nc, .slice a l.length c] 28)).alloc (.cells #[.int .i64 0, .int .i64 0, .string ⟨#[]⟩, .slice none 0 0, .slice none 0 0, .slice none 0 0] 28)) y) := fun y hy => (hA y hy).lt.grown hg2 (by nofun)
 have HVv := hJQ hV
 clear c0 c1 c2 c3 c4 c5 h hb0 gC HP HC0 hsz0 hg1 hcc hg2 hBx hR hA hV hks hPW hz hf
 have hwr : IntKind.i64.wrap (n - d) = n - d := wrap_ok _ (by omega) (by omega)
 have hwr2 : IntKind.i64.wrap (n - gl.length) = n - gl.length := wrap_ok _ (by omega) (by omega)
 have hgl9 : gl.length<=9223372036854775807 := by omega
 by_cases q1 : op ≠ 1 ∨ n - d < 0
 ·have HE : Hid (leafT (gl.map pC) (.mk op n s (pK k) ns (l.map pC)) d = .mk op n s (pK k) [] []) := if_pos q1
  rw [HE.out]
  have q2 : op ≠ 1 ∨ (op = 1/\n - d < 0) := by
   by_cases h : op = 1
   ·exact .inr ⟨h, by rcases q1 with q | q; exact absurd h q; exact q⟩
   ·exact .inl h
  clear q1
  rcases q2 with q2 | ⟨q1, q2⟩
  ·have q2' : (op != 1) = true := nNQ q2
   clear q2 hop
   go_enter Tryz.func67, Tryz.ntmps67
   go_upto_region 1 with fail
   generalize (w.alloc (.cells #[.int .i64 op, .int .i64 n, .string s, .slice ka kn kc, .slice na ns.length nc, .slice a l.length c] 28)).alloc (.cells #[.int .i64 0, .int .i64 0, .string ⟨#[]⟩, .slice none 0 0, .slice none 0 0, .slice none 0 0] 28) = W at *
   obtain ⟨c0, c1, c2, c3, c4, c5⟩ := cnQ kB
   go_wp2_with fail
   refine (HLeaf.out).mono ?_
   rintro e w2 ⟨ho, hb2⟩
   obtain ⟨dd, xo, xn, xs, xka, xkn, xkc, xna, xnm, xnc, xla, xlm, xlc, rfl, hdd, hpd, hdv⟩ := ho.open'
   have gR2 := (hb2.block _ (hLQ kR)).trans kR
   have hltR := hLQ kR
   have hrow := gRQ w2 (w.heap.size + 1) #[.int .i64 xo, .int .i64 xn, .string xs, .slice xka xkn xkc, .slice xna xnm xnc, .slice xla xlm xlc]
   have HR3 := hJQ (setRow_heap w2 (w.heap.size + 1) _ #[.int .i64 xo, .int .i64 xn, .string xs, .slice xka xkn xkc, .slice xna xnm xnc, .slice xla xlm xlc] _ _ gR2)
   have HB := hJQ ((hbW.trans (hb2.mono hbW.size)).trans (gUQ (B := w.heap.size) hrow (by have := hbW.size; have := hb2.size; omega) (fun q hq => by have e2 : (w.heap.size + 1) = q := oJQ hq; omega)))
   have HD := hJQ ((hdd.grown hrow (fun q hq hp => by have e2 : (w.heap.size + 1) = q := oJQ hq; have hp : W.heap.size<=q := hp; omega)).mono (Q := (fun b => w.heap.size<=b)) (fun b hb _ => by have hb : W.heap.size<=b := hb; have := hbW.size; show w.heap.size<=b; omega))
   clear hrow hdd ho hb2
   go_wp2_with (refine wpList_store_row rfl 28 _ _ rfl (w.heap.size + 1) _ rfl rfl 28 _ gR2 cIQ rfl (all_one _ rfl) ?_)
   refine bodyPost_ret (results_cell_row rfl _ _ (w.heap.size + 1) 28 #[.int .i64 xo, .int .i64 xn, .string xs, .slice xka xkn xkc, .slice xna xnm xnc, .slice xla xlm xlc] (0, 0) _ rfl HR3.out Tryz.underlying28 rfl cIQ) rfl ?_
   exact ⟨⟨dd, by rw [hdv], HD.out, hpd⟩, HB.out⟩
  ·have q1' : (op != 1) = false := by rw [q1]; rfl
   clear q1 hop
   go_enter Tryz.func67, Tryz.ntmps67
   go_upto_region 1 with fail
   generalize (w.alloc (.cells #[.int .i64 op, .int .i64 n, .string s, .slice ka kn kc, .slice na ns.length nc, .slice a l.length c] 28)).alloc (.cells #[.int .i64 0, .int .i64 0, .string ⟨#[]⟩, .slice none 0 0, .slice none 0 0, .slice none 0 0] 28) = W at *
   obtain ⟨c0, c1, c2, c3, c4, c5⟩ := cnQ kB
   go_wp2_with fail
   refine (HLeaf.out).mono ?_
   rintro e w2 ⟨ho, hb2⟩
   obtain ⟨dd, xo, xn, xs, xka, xkn, xkc, xna, xnm, xnc, xla, xlm, xlc, rfl, hdd, hpd, hdv⟩ := ho.open'
   have gR2 := (hb2.block _ (hLQ kR)).trans kR
   have hltR := hLQ kR
   have hrow := gRQ w2 (w.heap.size + 1) #[.int .i64 xo, .int .i64 xn, .string xs, .slice xka xkn xkc, .slice xna xnm xnc, .slice xla xlm xlc]
   have HR3 := hJQ (setRow_heap w2 (w.heap.size + 1) _ #[.int .i64 xo, .int .i64 xn, .string xs, .slice xka xkn xkc, .slice xna xnm xnc, .slice xla xlm xlc] _ _ gR2)
   have HB := hJQ ((hbW.trans (hb2.mono hbW.size)).trans (gUQ (B := w.heap.size) hrow (by have := hbW.size; have := hb2.size; omega) (fun q hq => by have e2 : (w.heap.size + 1) = q := oJQ hq; omega)))
   have HD := hJQ ((hdd.grown hrow (fun q hq hp => by have e2 : (w.heap.size + 1) = q := oJQ hq; have hp : W.heap.size<=q := hp; omega)).mono (Q := (fun b => w.heap.size<=b)) (fun b hb _ => by have hb : W.heap.size<=b := hb; have := hbW.size; show w.heap.size<=b; omega))
   clear hrow hdd ho hb2
   go_wp2_with (refine wpList_store_row rfl 28 _ _ rfl (w.heap.size + 1) _ rfl rfl 28 _ gR2 cIQ rfl (all_one _ rfl) ?_)
   refine bodyPost_ret (results_cell_row rfl _ _ (w.heap.size + 1) 28 #[.int .i64 xo, .int .i64 xn, .string xs, .slice xka xkn xkc, .slice xna xnm xnc, .slice xla xlm xlc] (0, 0) _ rfl HR3.out Tryz.underlying28 rfl cIQ) rfl ?_
   exact ⟨⟨dd, by rw [hdv], HD.out, hpd⟩, HB.out⟩
 ·have q1 : op = 1/\0<=n - d := by
   refine ⟨?_, ?_⟩
   ·by_cases h : op = 1
    ·exact h
    ·exact absurd (.inl h) q1
   ·by_cases h : 0<=n - d
    ·exact h
    ·exact absurd (.inr (by omega)) q1
  obtain ⟨q1, q2⟩ := q1
  have q1' : (op != 1) = false := by rw [q1]; rfl
  by_cases q3 : (gl.length : Int)<=n - d
  ·have HE : Hid (leafT (gl.map pC) (.mk op n s (pK k) ns (l.map pC)) d = varC (n - gl.length)) := by
    show _ = _
    unfold leafT
    rw [if_neg (fun hh => by rcases hh with hh | hh; exact hh q1; have hh : n - (d : Int) < 0 := hh; omega), if_pos (by rw [List.length_map]; exact q3), List.length_map]; rfl
   rw [HE.out]
   clear q1 hop
   go_enter Tryz.func67, Tryz.ntmps67
   go_upto_region 1 with fail
   generalize (w.alloc (.cells #[.int .i64 op, .int .i64 n, .string s, .slice ka kn kc, .slice na ns.length nc, .slice a l.length c] 28)).alloc (.cells #[.int .i64 0, .int .i64 0, .string ⟨#[]⟩, .slice none 0 0, .slice none 0 0, .slice none 0 0] 28) = W at *
   obtain ⟨c0, c1, c2, c3, c4, c5⟩ := cnQ kB
   have cL := cell_int kL
   go_wp2_with fail
   refine (HVar.out W).mono ?_
   rintro e w2 ⟨ho, hb2⟩
   obtain ⟨dd, xo, xn, xs, xka, xkn, xkc, xna, xnm, xnc, xla, xlm, xlc, rfl, hdd, hpd, hdv⟩ := ho.open'
   have gR2 := (hb2.block _ (hLQ kR)).trans kR
   have hltR := hLQ kR
   have hrow := gRQ w2 (w.heap.size + 1) #[.int .i64 xo, .int .i64 xn, .string xs, .slice xka xkn xkc, .slice xna xnm xnc, .slice xla xlm xlc]
   have HR3 := hJQ (setRow_heap w2 (w.heap.size + 1) _ #[.int .i64 xo, .int .i64 xn, .string xs, .slice xka xkn xkc, .slice xna xnm xnc, .slice xla xlm xlc] _ _ gR2)
   have HB := hJQ ((hbW.trans (hb2.mono hbW.size)).trans (gUQ (B := w.heap.size) hrow (by have := hbW.size; have := hb2.size; omega) (fun q hq => by have e2 : (w.heap.size + 1) = q := oJQ hq; omega)))
   have HD := hJQ ((hdd.grown hrow (fun q hq hp => by have e2 : (w.heap.size + 1) = q := oJQ hq; have hp : W.heap.size<=q := hp; omega)).mono (Q := (fun b => w.heap.size<=b)) (fun b hb _ => by have hb : W.heap.size<=b := hb; have := hbW.size; show w.heap.size<=b; omega))
   clear hrow hdd ho hb2
   go_wp2_with (refine wpList_store_row rfl 28 _ _ rfl (w.heap.size + 1) _ rfl rfl 28 _ gR2 cIQ rfl (all_one _ rfl) ?_)
   refine bodyPost_ret (results_cell_row rfl _ _ (w.heap.size + 1) 28 #[.int .i64 xo, .int .i64 xn, .string xs, .slice xka xkn xkc, .slice xna xnm xnc, .slice xla xlm xlc] (0, 0) _ rfl HR3.out Tryz.underlying28 rfl cIQ) rfl ?_
   exact ⟨⟨dd, by rw [hdv], HD.out, hpd⟩, HB.out⟩
  ·obtain ⟨i, hi⟩ : ∃ i : Nat, n - (d : Int) = i := ⟨(n - d).toNat, by omega⟩
   have hlt : i < gl.length := by omega
   have HE : Hid (leafT (gl.map pC) (.mk op n s (pK k) ns (l.map pC)) d = rebC (leafS d 0) 0 (pC (gl.getD i default))) := by
    show _ = _
    unfold leafT
    rw [if_neg (fun hh => by rcases hh with hh | hh; exact hh q1; have hh : n - (d : Int) < 0 := hh; omega), if_neg (by rw [List.length_map]; exact q3)]
    show rebC (leafS d 0) 0 ((gl.map pC).getD (n - (d : Int)).toNat default) = _
    rw [hi, Int.toNat_natCast, map_getD pC gl _ hlt]
   rw [HE.out]
   have q3' : ¬ (gl.length : Int)<=(i : Int) := by omega
   have q3n : ¬ gl.length<=i := by omega
   have q3d : decide ((gl.length : Int)<=(i : Int)) = false := decide_eq_false q3'
   have q3e : decide (gl.length<=i) = false := decide_eq_false q3n
   have q2' : ¬ (i : Int) < 0 := by omega
   have hni : n = (i : Int) + d := by omega
   clear q1 hop HE q2 q3 hi hwr2
   subst hni
   have hwr : IntKind.i64.wrap ((i : Int) + d - d) = i := by rw [Int.add_sub_cancel]; exact wrap_ok _ (by omega) (by omega)
   go_enter Tryz.func67, Tryz.ntmps67
   go_upto_region 1 with fail
   generalize (w.alloc (.cells #[.int .i64 op, .int .i64 ((i : Int) + d), .string s, .slice ka kn kc, .slice na ns.length nc, .slice a l.length c] 28)).alloc (.cells #[.int .i64 0, .int .i64 0, .string ⟨#[]⟩, .slice none 0 0, .slice none 0 0, .slice none 0 0] 28) = W at *
   obtain ⟨c0, c1, c2, c3, c4, c5⟩ := cnQ kB
   have cL := cell_int kL
   go_wp2_with fail
   refine (HSh.out W).mono ?_
   rintro e w1 ⟨rfl, rfl⟩
   have kb0 := nHQ W (.cells #[.int .i64 d] 3)
   have hga := gAQ W (.cells #[.int .i64 d] 3)
   have hgb := gAQ (W.alloc (.cells #[.int .i64 d] 3)) (.cells #[.int .i64 0] 3)
   have hsa : (W.alloc (.cells #[.int .i64 d] 3)).heap.size = W.heap.size + 1 := by simp
   have kf : ((W.alloc (.cells #[.int .i64 d] 3)).alloc (.cells #[.int .i64 0] 3)).heap[W.heap.size + 1]? = some (.cells #[.int .i64 0] 3 (0, 0)) := (congrArg _ hsa.symm).trans (nHQ (W.alloc (.cells #[.int .i64 d] 3)) (.cells #[.int .i64 0] 3))
   have kb := (hgb.block W.heap.size (by omega) (by nofun)).trans kb0
   have hgab := gBQ hga hgb
   have hsb : ((W.alloc (.cells #[.int .i64 d] 3)).alloc (.cells #[.int .i64 0] 3)).heap.size = W.heap.size + 2 := by simp
   generalize (W.alloc (.cells #[.int .i64 d] 3)).alloc (.cells #[.int .i64 0] 3) = W2 at *
   clear kb0 hga hgb hsa
   rw [hszW] at kf kb hsb
   have hsb : W2.heap.size = w.heap.size + 4 := hsb
   rw [show (some (⟨W.heap.size + 1, 0, none⟩ : Addr)) = some ⟨w.heap.size + 3, 0, none⟩ by rw [hszW], show (some (⟨W.heap.size, 0, none⟩ : Addr)) = some ⟨w.heap.size + 2, 0, none⟩ by rw [hszW]]
   have hgm := gAQ W2 (.cells #[.func (.func 110) #[] #[.pointer (some ⟨w.heap.size + 3, 0, none⟩), .pointer (some ⟨w.heap.size + 2, 0, none⟩)], .int .i64 20000] 88)
   have kM : MkAt (W2.alloc (.cells #[.func (.func 110) #[] #[.pointer (some ⟨w.heap.size + 3, 0, none⟩), .pointer (some ⟨w.heap.size + 2, 0, none⟩)], .int .i64 20000] 88)) (w.heap.size + 4) 110 #[.pointer (some ⟨w.heap.size + 3, 0, none⟩), .pointer (some ⟨w.heap.size + 2, 0, none⟩)] 20000 := by
    have := nHQ W2 (.cells #[.func (.func 110) #[] #[.pointer (some ⟨w.heap.size + 3, 0, none⟩), .pointer (some ⟨w.heap.size + 2, 0, none⟩)], .int .i64 20000] 88)
    rw [hsb] at this
    exact this
   have hgW3 := gBQ hgab hgm
   have kR3 := (hgW3.block (w.heap.size + 1) (by omega) (by nofun)).trans kR
   have kL3 := (hgW3.block lb0 (hLQ kL) (by nofun)).trans kL
   have cL3 := cell_int kL3
   have hsm : (W2.alloc (.cells #[.func (.func 110) #[] #[.pointer (some ⟨w.heap.size + 3, 0, none⟩), .pointer (some ⟨w.heap.size + 2, 0, none⟩)], .int .i64 20000] 88)).heap.size = w.heap.size + 5 := by simp [hsb]
   have hbW3 := hbW.trans (gUQ (B := w.heap.size) hgW3 (by omega) (by nofun))
   have HRr3 := hJQ (HRr.out.grown hgW3 (by nofun))
   have HAa3 : Hid (∀ y ∈ gl, IsCon (fun b => P b/\b < w.heap.size) (W2.alloc (.cells #[.func (.func 110) #[] #[.pointer (some ⟨w.heap.size + 3, 0, none⟩), .pointer (some ⟨w.heap.size + 2, 0, none⟩)], .int .i64 20000] 88)) y) := fun y hy => (HAa.out y hy).grown hgW3 (by nofun)
   have kf3 := (hgm.block _ (hLQ kf) (by nofun)).trans kf
   have kb3 := (hgm.block _ (hLQ kb) (by nofun)).trans kb
   have hLA := leafAt_shift (fun b => P b/\b < w.heap.size) (W2.alloc (.cells #[.func (.func 110) #[] #[.pointer (some ⟨w.heap.size + 3, 0, none⟩), .pointer (some ⟨w.heap.size + 2, 0, none⟩)], .int .i64 20000] 88)) (w.heap.size + 4) (w.heap.size + 3) (w.heap.size + 2) d 0 kf3 kb3 (by omega) (by omega) (by omega) (by omega)
   obtain ⟨b, off, yop, yn, ys, yk, yns, yl, yka, ykn, ykc, yna, ync, ya, yc, fd, hbl, hq, hy, hmem, hv, HT, e0, e1, e2, e3, e4, e5⟩ := part_at HRr3.out HAa3.out i hlt
   subst fd
   have hVy := HVv.out _ (List.mem_map_of_mem (f := pC) hmem)
   obtain ⟨v1, v2, v3⟩ := val_iff.1 hVy
   have HC := rebuild_any (fun b => P b/\b < w.heap.size) (w.heap.size + 4) 110 #[.pointer (some ⟨w.heap.size + 3, 0, none⟩), .pointer (some ⟨w.heap.size + 2, 0, none⟩)] (enters_of Tryz.func110 (by kernel_rfl) rfl) (leafS d 0) (W2.alloc (.cells #[.func (.func 110) #[] #[.pointer (some ⟨w.heap.size + 3, 0, none⟩), .pointer (some ⟨w.heap.size + 2, 0, none⟩)], .int .i64 20000] 88)) (fun hp => by have := hp.2; omega) hLA _ _ 20000 0 ⟨⟨rfl, rfl, rfl, Nat.le_refl _, fun _ _ _ => rfl⟩, hy, v3, v1, kM, by omega, by omega, by omega, by omega⟩
   have hsT : sizeC (rebC (leafS d 0) 0 (pC (.mk yop yn ys yk (.slice yna yns.length ync) yns (.slice ya yl.length yc) yl)))<=20000 := by
    rw [show rebC (leafS (d : Int) 0) 0 _ = _ from reb_shift d _ 0 0 v3, shift_size _ _ _ v3]; exact v1
   have HTq : Hid (rebC (leafS d 0) 0 (pC (gl.getD i default)) = rebC (leafS d 0) 0 (pC (.mk yop yn ys yk (.slice yna yns.length ync) yns (.slice ya yl.length yc) yl))) := by show _ = _; rw [hq]
   have HCC : Hid (Calls Tryz.prog 71 #[.pointer (some ⟨w.heap.size + 4, 0, none⟩), .agg #[.int .i64 yop, .int .i64 yn, .string ys, .slice yka ykn ykc, .slice yna yns.length ync, .slice ya yl.length yc], .int .i64 0] (W2.alloc (.cells #[.func (.func 110) #[] #[.pointer (some ⟨w.heap.size + 3, 0, none⟩), .pointer (some ⟨w.heap.size + 2, 0, none⟩)], .int .i64 20000] 88)) fun e w' => ConOut (fun b => (W2.alloc (.cells #[.func (.func 110) #[] #[.pointer (some ⟨w.heap.size + 3, 0, none⟩), .pointer (some ⟨w.heap.size + 2, 0, none⟩)], .int .i64 20000] 88)).heap.size<=b) (rebC (leafS d 0) 0 (pC (.mk yop yn ys yk (.slice yna yns.length ync) yns (.slice ya yl.length yc) yl))) e w'/\(W2.alloc (.cells #[.func (.func 110) #[] #[.pointer (some ⟨w.heap.size + 3, 0, none⟩), .pointer (some ⟨w.heap.size + 2, 0, none⟩)], .int .i64 20000] 88)).grownBy w' (some (w.heap.size + 4))) := by
    rw [hv] at HC
    refine HC.mono ?_
    rintro e w' ⟨dd, lj, rfl, hdd, hm, hgj, _, _, hyes, _⟩
    exact ⟨⟨dd, rfl, hdd, (hyes (by omega)).1⟩, hgj⟩
   clear HC hLA hy hv hmem HT hVy v1 v2 v3 hq hsT
   generalize rebC (leafS d 0) 0 (pC (.mk yop yn ys yk (.slice yna yns.length ync) yns (.slice ya yl.length yc) yl)) = T at *
   go_wp2_with fail
   refine HCC.out.mono ?_
   rintro e w4 ⟨ho, hgj⟩
   obtain ⟨dd, xo, xn, xs, xka, xkn, xkc, xna, xnm, xnc, xla, xlm, xlc, rfl, hdd, hpd, hdv⟩ := ho.open'
   have hs4 := hgj.size
   have gR4 := (hgj.block (w.heap.size + 1) (by omega) (fun e => by have e2 : w.heap.size + 1 = w.heap.size + 4 := oJQ e; omega)).trans kR3
   have hrow := gRQ w4 (w.heap.size + 1) #[.int .i64 xo, .int .i64 xn, .string xs, .slice xka xkn xkc, .slice xna xnm xnc, .slice xla xlm xlc]
   have HR5 := hJQ (setRow_heap w4 (w.heap.size + 1) _ #[.int .i64 xo, .int .i64 xn, .string xs, .slice xka xkn xkc, .slice xna xnm xnc, .slice xla xlm xlc] _ _ gR4)
   have HB := hJQ ((hbW3.trans (gUQ (B := w.heap.size) hgj (by omega) (fun q hq => by have e2 : w.heap.size + 4 = q := oJQ hq; omega))).trans (gUQ (B := w.heap.size) hrow (by omega) (fun q hq => by have e2 : w.heap.size + 1 = q := oJQ hq; omega)))
   have HD := hJQ ((hdd.grown hrow (fun q hq hp => by have e2 : w.heap.size + 1 = q := oJQ hq; have hp : (W2.alloc (.cells #[.func (.func 110) #[] #[.pointer (some ⟨w.heap.size + 3, 0, none⟩), .pointer (some ⟨w.heap.size + 2, 0, none⟩)], .int .i64 20000] 88)).heap.size<=q := hp; omega)).mono (Q := fun b => w.heap.size<=b) (fun b hb _ => by have hb : (W2.alloc (.cells #[.func (.func 110) #[] #[.pointer (some ⟨w.heap.size + 3, 0, none⟩), .pointer (some ⟨w.heap.size + 2, 0, none⟩)], .int .i64 20000] 88)).heap.size<=b := hb; show w.heap.size<=b; omega))
   clear hrow hdd ho hgj HCC
   go_wp2_with (refine wpList_store_row rfl 28 _ _ rfl (w.heap.size + 1) _ rfl rfl 28 _ gR4 cIQ rfl (all_one _ rfl) ?_)
   refine bodyPost_ret (results_cell_row rfl _ _ (w.heap.size + 1) 28 #[.int .i64 xo, .int .i64 xn, .string xs, .slice xka xkn xkc, .slice xna xnm xnc, .slice xla xlm xlc] (0, 0) _ rfl HR5.out Tryz.underlying28 rfl cIQ) rfl ?_
   exact ⟨⟨dd, by rw [hdv], HD.out, by rw [HTq.out]; exact hpd⟩, HB.out⟩
end Go.Proofs.YtkiffgdinmpljaaGreatDoor
