/- rebuild, replaced. Expanded by mac.py. -/
import Derived.Test.YtkiffgdinmpljaaGreatDoorF20
set_option linter.unusedVariables false
set_option linter.unusedSimpArgs false
namespace Go.Proofs.YtkiffgdinmpljaaGreatDoor
open Go Go.RowKit
set_option maxHeartbeats 8000000
set_option maxRecDepth 100000
theorem rebuild_any (P : Nat->Prop) (mb g : Nat) (lb : Array Value) (eg : ∀ args w, (callFunc g args).run Tryz.prog w = .ok (.enter g args) w) (f : Cn->Int->Cn) (w0 : World) (hP : ¬ P mb) (hL : LeafAt P w0 mb g lb f) : ∀ x : ConD, RebAll P w0 mb g lb f x := by
 refine ConD.ind (fun op n s k nv ns lv l ih => ?_)
 intro w left d HY
 by_cases hl : 0 < left
 ·by_cases hop : op = 1 ∨ op = 2
  ·have := reb_leaf P mb g lb eg f w0 hL op n s k nv ns lv l w left d HY hl hop
   rw [pMQ] at this ⊢
   rw [rebC_leaf _ _ _ _ _ _ _ _ hop]
   exact this
  ·cases hbb : binderB op
   ·exact reb_node_false P mb g lb f w0 hP op n s k nv ns lv l ih w left d HY hl hop hbb
   ·exact reb_node_true P mb g lb f w0 hP op n s k nv ns lv l ih w left d HY hl hop hbb
 ·exact reb_none P mb g lb _ op n s k nv ns lv l w left d HY.2.1 HY.2.2.2.2.1 (by omega)
def ReplOk (T : Cn) (w : World) (e : Ending) (w' : World) : Prop :=
 ∃ (d : ConD) (er : Int), e = .returned (.tuple #[conV d, .int .i64 er])/\IsCon (fun b => w.heap.size<=b) w' d/\Below w.heap.size w w'/\(valC T = true->er = 0/\pC d = T)/\(valC T = false->er = 6/\(pC d).op = 0)
theorem ConD.op_pure (d : ConD) : (pC d).op = d.op := by cases d; rw [pMQ]; rfl
theorem val_size {T : Cn} (h : ¬ sizeC T<=20000) : valC T = false := by
 show (decide _ && decide _ && _) = false
 rw [decide_eq_false h]; rfl
theorem val_iff {T : Cn} : valC T = true ↔ sizeC T<=20000/\dCQ T<=400/\frmC T = true := by
 show (decide _ && decide _ && _) = true ↔ _
 simp only [Bool.and_eq_true, decide_eq_true_eq, and_assoc]
theorem replaced_any (P : Nat->Prop) (x : ConD) (g : Nat) (lb : Array Value) (eg : ∀ args w, (callFunc g args).run Tryz.prog w = .ok (.enter g args) w) (f : Cn->Int->Cn) (w : World) (hE : EnvN w) (h : IsCon P w x) (hv : valC (pC x) = true) (hbT : bndC (rebC f 0 (pC x)))
 (hL : ∀ (mb : Nat) (W : World), w.heap.size<=mb->w.grownBy W none->LeafAt (fun b => P b/\b < w.heap.size) W mb g lb f) :
 Calls Tryz.prog 66 #[conV x, .func (.func g) #[] lb] w (ReplOk (rebC f 0 (pC x)) w) := by
 obtain ⟨hv1, hv2, hv3⟩ := val_iff.1 hv
 have hcl := h.lt
 obtain ⟨op, n, s, k, nv, ns, lv, l⟩ := x
 obtain ⟨ka, kc, kn, hks⟩ := iKQ h.parts.kind
 obtain ⟨na, nc, rfl, _⟩ := rSQ h.parts.names
 obtain ⟨a, c, rfl, _⟩ := rSQ h.parts.row
 rw [cVQ hks]
 have hll : l.length<=9223372036854775807 := by have h1 := h.parts.llen; have : maxLen = 9223372036854775807 := (by decide); omega
 have hnn : ns.length<=9223372036854775807 := by have h1 := h.parts.nlen; have : maxLen = 9223372036854775807 := (by decide); omega
 have hb0 : Below w.heap.size w (w.alloc (.cells #[.int .i64 op, .int .i64 n, .string s, .slice ka kn kc, .slice na ns.length nc, .slice a l.length c] 28)) := (Below.refl _ _).alloc (Nat.le_refl _) _
 have gC := nHQ w (.cells #[.int .i64 op, .int .i64 n, .string s, .slice ka kn kc, .slice na ns.length nc, .slice a l.length c] 28)
 have hsz0 : (w.alloc (.cells #[.int .i64 op, .int .i64 n, .string s, .slice ka kn kc, .slice na ns.length nc, .slice a l.length c] 28)).heap.size = w.heap.size + 1 := by simp
 obtain ⟨c0, c1, c2, c3, c4, c5⟩ := cnQ gC
 have HP := hJQ (iBQ h hb0).parts
 have HC0 := hJQ (iBQ h hb0)
 have hPW := cVQ (op := op) (n := n) (s := s) (nv := .slice na ns.length nc) (lv := .slice a l.length c) (ns := ns) (l := l) hks
 have hg1 := gAQ (w.alloc (.cells #[.int .i64 op, .int .i64 n, .string s, .slice ka kn kc, .slice na ns.length nc, .slice a l.length c] 28)) (.cells #[.int .i64 0, .int .i64 0, .string ⟨#[]⟩, .slice none 0 0, .slice none 0 0, .slice none 0 0] 28)
 have hg2 := gAQ ((w.alloc (.cells #[.int .i64 op, .int .i64 n, .string s, .slice ka kn kc, .slice na ns.length nc, .slice a l.length c] 28)).alloc (.cells #[.int .i64 0, .int .i64 0, .string ⟨#[]⟩, .slice none 0 0, .slice none 0 0, .slice none 0 0] 28)) (.cells #[.func (.func g) #[] lb, .int .i64 20000] 88)
 have s2 : ((w.alloc (.cells #[.int .i64 op, .int .i64 n, .string s, .slice ka kn kc, .slice na ns.length nc, .slice a l.length c] 28)).alloc (.cells #[.int .i64 0, .int .i64 0, .string ⟨#[]⟩, .slice none 0 0, .slice none 0 0, .slice none 0 0] 28)).heap.size = w.heap.size + 1 + 1 := by simp
 have kR0 : ((w.alloc (.cells #[.int .i64 op, .int .i64 n, .string s, .slice ka kn kc, .slice na ns.length nc, .slice a l.length c] 28)).alloc (.cells #[.int .i64 0, .int .i64 0, .string ⟨#[]⟩, .slice none 0 0, .slice none 0 0, .slice none 0 0] 28)).heap[w.heap.size + 1]? = _ := (congrArg _ hsz0.symm).trans (nHQ (w.alloc (.cells #[.int .i64 op, .int .i64 n, .string s, .slice ka kn kc, .slice na ns.length nc, .slice a l.length c] 28)) (.cells #[.int .i64 0, .int .i64 0, .string ⟨#[]⟩, .slice none 0 0, .slice none 0 0, .slice none 0 0] 28))
 have kR := (hg2.block (w.heap.size + 1) (by omega) (by nofun)).trans kR0
 have kB := (hg2.block w.heap.size (by omega) (by nofun)).trans ((hg1.block w.heap.size (by omega) (by nofun)).trans gC)
 have kM : MkAt (((w.alloc (.cells #[.int .i64 op, .int .i64 n, .string s, .slice ka kn kc, .slice na ns.length nc, .slice a l.length c] 28)).alloc (.cells #[.int .i64 0, .int .i64 0, .string ⟨#[]⟩, .slice none 0 0, .slice none 0 0, .slice none 0 0] 28)).alloc (.cells #[.func (.func g) #[] lb, .int .i64 20000] 88)) (w.heap.size + 1 + 1) g lb 20000 := by
  have := nHQ ((w.alloc (.cells #[.int .i64 op, .int .i64 n, .string s, .slice ka kn kc, .slice na ns.length nc, .slice a l.length c] 28)).alloc (.cells #[.int .i64 0, .int .i64 0, .string ⟨#[]⟩, .slice none 0 0, .slice none 0 0, .slice none 0 0] 28)) (.cells #[.func (.func g) #[] lb, .int .i64 20000] 88)
  rw [s2] at this
  exact this
 have hgW := gBQ (gBQ (gAQ w (.cells #[.int .i64 op, .int .i64 n, .string s, .slice ka kn kc, .slice na ns.length nc, .slice a l.length c] 28)) hg1) hg2
 have hszW : (((w.alloc (.cells #[.int .i64 op, .int .i64 n, .string s, .slice ka kn kc, .slice na ns.length nc, .slice a l.length c] 28)).alloc (.cells #[.int .i64 0, .int .i64 0, .string ⟨#[]⟩, .slice none 0 0, .slice none 0 0, .slice none 0 0] 28)).alloc (.cells #[.func (.func g) #[] lb, .int .i64 20000] 88)).heap.size = w.heap.size + 1 + 1 + 1 := by simp
 have HC := rebuild_any (fun b => P b/\b < w.heap.size) (w.heap.size + 1 + 1) g lb eg f _ (fun hp => by have := hp.2; omega) (hL (w.heap.size + 1 + 1) _ (by omega) hgW) _ _ 20000 0 ⟨⟨rfl, rfl, rfl, Nat.le_refl _, fun _ _ _ => rfl⟩, hcl.grown hgW (by nofun), hv3, hv1, kM, by omega, by omega, by omega, by omega⟩
 rw [hPW] at HC
 have HC := hJQ HC
 have HE := hJQ hE
 generalize rebC f 0 (pC (.mk op n s k (.slice na ns.length nc) ns (.slice a l.length c) l)) = T at *
 clear h hks hL hcl hPW hv hv1 hv2 hv3 c0 c1 c2 c3 c4 c5 hg1 hg2 s2 kR0 gC HP HC0 hb0 hsz0
 obtain ⟨c0, c1, c2, c3, c4, c5⟩ := cnQ kB
 go_enter Tryz.func66, Tryz.ntmps66
 go_wp2_with fail
 refine HC.out.mono ?_
 rintro e w1 ⟨dd, lj, rfl, hdd, hm1, hgj, hz0, hz1, hyes, hno⟩
 obtain ⟨xop, xn, xs, xk, xns, xl, xka, xkn, xkc, xna, xnc, xla, xlc, rfl, hxk, _⟩ := cSQ hdd
 have hxv := cVQ (op := xop) (n := xn) (s := xs) (nv := .slice xna xns.length xnc) (lv := .slice xla xl.length xlc) (ns := xns) (l := xl) hxk
 rw [hxv]
 have hs1 := hgj.size
 generalize (((w.alloc (.cells #[.int .i64 op, .int .i64 n, .string s, .slice ka kn kc, .slice na ns.length nc, .slice a l.length c] 28)).alloc (.cells #[.int .i64 0, .int .i64 0, .string ⟨#[]⟩, .slice none 0 0, .slice none 0 0, .slice none 0 0] 28)).alloc (.cells #[.func (.func g) #[] lb, .int .i64 20000] 88)) = W at *
 have kR1 := (hgj.block (w.heap.size + 1) (by omega) (fun e => by have e2 : w.heap.size + 1 = w.heap.size + 1 + 1 := oJQ e; omega)).trans kR
 have hgA := gAQ w1 (.cells #[.int .i64 xop, .int .i64 xn, .string xs, .slice xka xkn xkc, .slice xna xns.length xnc, .slice xla xl.length xlc] 28)
 have hszA : (w1.alloc (.cells #[.int .i64 xop, .int .i64 xn, .string xs, .slice xka xkn xkc, .slice xna xns.length xnc, .slice xla xl.length xlc] 28)).heap.size = w1.heap.size + 1 := by simp
 have kX := nHQ w1 (.cells #[.int .i64 xop, .int .i64 xn, .string xs, .slice xka xkn xkc, .slice xna xns.length xnc, .slice xla xl.length xlc] 28)
 have kRA := (hgA.block _ (hLQ kR1) (by nofun)).trans kR1
 have kMA := hm1.grown hgA (by nofun)
 have hdA := hdd.grown hgA (by nofun)
 have hgT : Below w.heap.size w (w1.alloc (.cells #[.int .i64 xop, .int .i64 xn, .string xs, .slice xka xkn xkc, .slice xna xns.length xnc, .slice xla xl.length xlc] 28)) := ((gUQ (B := w.heap.size) hgW (Nat.le_refl _) (by nofun)).trans (gUQ hgj (by omega) (fun q hq => by have e2 : w.heap.size + 1 + 1 = q := oJQ hq; omega))).trans (gUQ hgA (by omega) (by nofun))
 obtain ⟨x0, x1, x2, x3, x4, x5⟩ := cnQ kX
 obtain ⟨m0, m1, _⟩ := kMA.cells
 clear HC kB c0 c1 c2 c3 c4 c5 kM kR kR1 hm1 hdd hgA hgj hgW
 by_cases hlj : lj < 0
 ·have HV0 : valC T = false := val_size (fun h => by have := (hyes (by omega)).2; omega)
  have hrow := gRQ (w1.alloc (.cells #[.int .i64 xop, .int .i64 xn, .string xs, .slice xka xkn xkc, .slice xna xns.length xnc, .slice xla xl.length xlc] 28)) (w.heap.size + 1) #[.int .i64 0, .int .i64 0, .string ⟨#[]⟩, .slice none 0 0, .slice none 0 0, .slice none 0 0]
  have HRF := hJQ (setRow_heap (w1.alloc (.cells #[.int .i64 xop, .int .i64 xn, .string xs, .slice xka xkn xkc, .slice xna xns.length xnc, .slice xla xl.length xlc] 28)) (w.heap.size + 1) _ #[.int .i64 0, .int .i64 0, .string ⟨#[]⟩, .slice none 0 0, .slice none 0 0, .slice none 0 0] _ _ kRA)
  have HBF := hJQ (hgT.trans (gUQ (B := w.heap.size) hrow (by omega) (fun q hq => by have e2 : w.heap.size + 1 = q := oJQ hq; omega)))
  clear hrow hyes hno hdA hxv hgT
  go_wp2_with (refine wpList_store_row rfl 28 _ _ rfl (w.heap.size + 1) _ rfl rfl 28 _ kRA cIQ rfl (all_one _ rfl) ?_)
  refine bodyPost_ret (v := .tuple #[.agg #[.int .i64 0, .int .i64 0, .string ⟨#[]⟩, .slice none 0 0, .slice none 0 0, .slice none 0 0], .int .i64 6]) ?_ rfl ⟨_, 6, rfl, zero_con _ _, HBF.out, (fun h => by rw [HV0] at h; cases h), fun _ => ⟨rfl, by rw [pMQ]; rfl⟩⟩
  rw [results_cell_tmp (p := 4) (u := 5) (ty := 28) rfl]
  simp [asAddr, run_loadVar_row _ _ _ _ _ _ _ HRF.out Tryz.underlying28 rfl cIQ, Result.andThen]
 ·have hT20 : (sizeC T : Int)<=20000 := by
   by_cases hh : (sizeC T : Int)<=20000
   ·exact hh
   ·have := hno hh; omega
  obtain ⟨hpd, _⟩ := hyes hT20
  have HVd := valid_any _ _ _ (HE.out.below hgT) hdA (by rw [hpd]; exact hbT) (by rw [hpd]; omega)
  rw [hxv, hpd] at HVd
  have HVd := hJQ HVd
  obtain ⟨bv, hbv⟩ : ∃ b, valC T = b := ⟨_, rfl⟩
  rw [hbv] at HVd
  have HBV := hJQ hbv
  clear hyes hno hbv
  go_wp2_with fail
  refine HVd.out.mono ?_
  rintro e w5 ⟨rfl, hb5⟩
  have kX5 := (hb5.block _ (hLQ kX)).trans kX
  have kR5 := (hb5.block _ (hLQ kRA)).trans kRA
  have hd5 := iBQ hdA hb5
  have hg5 := hgT.trans (hb5.mono hgT.size)
  have hs5 := hb5.size
  obtain ⟨y0, y1, y2, y3, y4, y5⟩ := cnQ kX5
  clear HVd x0 x1 x2 x3 x4 x5 m0 m1 kX kRA kMA hdA hgT hb5
  cases bv
  ·have hrow := gRQ w5 (w.heap.size + 1) #[.int .i64 0, .int .i64 0, .string ⟨#[]⟩, .slice none 0 0, .slice none 0 0, .slice none 0 0]
   have HRF := hJQ (setRow_heap w5 (w.heap.size + 1) _ #[.int .i64 0, .int .i64 0, .string ⟨#[]⟩, .slice none 0 0, .slice none 0 0, .slice none 0 0] _ _ kR5)
   have HBF := hJQ (hg5.trans (gUQ (B := w.heap.size) hrow (by omega) (fun q hq => by have e2 : w.heap.size + 1 = q := oJQ hq; omega)))
   clear hrow hd5 hxv hg5
   go_wp2_with (refine wpList_store_row rfl 28 _ _ rfl (w.heap.size + 1) _ rfl rfl 28 _ kR5 cIQ rfl (all_one _ rfl) ?_)
   refine bodyPost_ret (v := .tuple #[.agg #[.int .i64 0, .int .i64 0, .string ⟨#[]⟩, .slice none 0 0, .slice none 0 0, .slice none 0 0], .int .i64 6]) ?_ rfl ⟨_, 6, rfl, zero_con _ _, HBF.out, (fun h => by rw [HBV.out] at h; cases h), fun _ => ⟨rfl, by rw [pMQ]; rfl⟩⟩
   rw [results_cell_tmp (p := 4) (u := 5) (ty := 28) rfl]
   simp [asAddr, run_loadVar_row _ _ _ _ _ _ _ HRF.out Tryz.underlying28 rfl cIQ, Result.andThen]
  ·have hrow := gRQ w5 (w.heap.size + 1) #[.int .i64 xop, .int .i64 xn, .string xs, .slice xka xkn xkc, .slice xna xns.length xnc, .slice xla xl.length xlc]
   have HRF := hJQ (setRow_heap w5 (w.heap.size + 1) _ #[.int .i64 xop, .int .i64 xn, .string xs, .slice xka xkn xkc, .slice xna xns.length xnc, .slice xla xl.length xlc] _ _ kR5)
   have HBF := hJQ (hg5.trans (gUQ (B := w.heap.size) hrow (by omega) (fun q hq => by have e2 : w.heap.size + 1 = q := oJQ hq; omega)))
   have HDF := hJQ ((hd5.grown hrow (fun q hq hp => by have e2 : w.heap.size + 1 = q := oJQ hq; have hp : W.heap.size<=q := hp; omega)).mono (Q := fun b => w.heap.size<=b) (fun b hb _ => by have hb : W.heap.size<=b := hb; show w.heap.size<=b; omega))
   have HXV := hJQ hxv
   clear hrow hd5 hxv hg5
   go_wp2_with (refine wpList_store_row rfl 28 _ _ rfl (w.heap.size + 1) _ rfl rfl 28 _ kR5 cIQ rfl (all_one _ rfl) ?_)
   refine bodyPost_ret (v := .tuple #[.agg #[.int .i64 xop, .int .i64 xn, .string xs, .slice xka xkn xkc, .slice xna xns.length xnc, .slice xla xl.length xlc], .int .i64 0]) ?_ rfl ⟨_, 0, by rw [HXV.out], HDF.out, HBF.out, (fun _ => ⟨rfl, hpd⟩), (fun h => by rw [HBV.out] at h; cases h)⟩
   rw [results_cell_tmp (p := 4) (u := 5) (ty := 28) rfl]
   simp [asAddr, run_loadVar_row _ _ _ _ _ _ _ HRF.out Tryz.underlying28 rfl cIQ, Result.andThen]
end Go.Proofs.YtkiffgdinmpljaaGreatDoor
