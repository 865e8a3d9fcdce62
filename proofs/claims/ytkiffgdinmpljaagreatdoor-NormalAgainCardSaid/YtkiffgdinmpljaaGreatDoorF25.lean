/- (*counter).kept. Printed by gen_kept.py, expanded by mac.py. -/
import Derived.Test.YtkiffgdinmpljaaGreatDoorF17
set_option linter.unusedVariables false
set_option linter.unusedSimpArgs false
namespace Go.Proofs.YtkiffgdinmpljaaGreatDoor
open Go Go.RowKit
set_option maxHeartbeats 8000000
set_option maxRecDepth 100000
def CtAt (V : World) (kb : Nat) (steps : Int) (over : Bool) : Prop := V.heap[kb]? = some (.cells #[.int .i64 steps, .bool over] 75 (0, 0))
theorem CtAt.cells {V : World} {kb : Nat} {steps : Int} {over : Bool} (h : CtAt V kb steps over) : V.cell? ⟨kb, 0, none⟩ = some (.int .i64 steps)/\V.cell? ⟨kb, 1, none⟩ = some (.bool over)/\V.frozen? ⟨kb, 0, none⟩ = false/\V.frozen? ⟨kb, 1, none⟩ = false := by
 unfold CtAt at h
 refine ⟨by simp [World.cell?, h], by simp [World.cell?, h], Lib.frozen_of_heap h 0, Lib.frozen_of_heap h 1⟩
theorem CtAt.grown {V V' : World} {kb : Nat} {steps : Int} {over : Bool} {r : Option Nat} (h : CtAt V kb steps over) (hg : V.grownBy V' r) (hr : r ≠ some kb) : CtAt V' kb steps over := (hg.block _ (hLQ h) (fun e => hr e.symm)).trans h
theorem CtAt.set0 {V : World} {kb : Nat} {steps : Int} {over : Bool} (h : CtAt V kb steps over) (s' : Int) : CtAt (V.setCell ⟨kb, 0, none⟩ (.int .i64 s')) kb s' over := heap_set_same h _
theorem CtAt.set1 {V : World} {kb : Nat} {steps : Int} {over : Bool} (h : CtAt V kb steps over) (b : Bool) : CtAt (V.setCell ⟨kb, 1, none⟩ (.bool b)) kb steps b := heap_set_same h _
def zeroD : ConD := .mk 0 0 ⟨#[]⟩ (.mk (.slice none 0 0) []) (.slice none 0 0) [] (.slice none 0 0) []
def KeptOk (kb : Nat) (x : ConD) (steps : Int) (over : Bool) (w : World) (e : Ending) (w' : World) : Prop :=
 ∃ d : ConD, e = .returned (conV d)/\CtAt w' kb steps (over || !smallC (pC x))/\w.grownBy w' (some kb)/\((over || !smallC (pC x)) = false->d = x)/\((over || !smallC (pC x)) = true->d = zeroD)
theorem kept_any (P : Nat->Prop) (x : ConD) (kb : Nat) (steps : Int) (over : Bool) (w : World) (h : IsCon P w x) (hC : CtAt w kb steps over) (hsz : sizeC (pC x)<=1000000000) :
 Calls Tryz.prog 95 #[.pointer (some ⟨kb, 0, none⟩), conV x] w (KeptOk kb x steps over w) := by
 obtain ⟨op, n, s, k, nv, ns, lv, l⟩ := x
 obtain ⟨ka, kc, kn, hks⟩ := iKQ h.parts.kind
 obtain ⟨na, nc, rfl, _⟩ := rSQ h.parts.names
 obtain ⟨a, c, rfl, _⟩ := rSQ h.parts.row
 rw [cVQ hks]
 have hll : l.length<=9223372036854775807 := by have h1 := h.parts.llen; have : maxLen = 9223372036854775807 := (by decide); omega
 have hnn : ns.length<=9223372036854775807 := by have h1 := h.parts.nlen; have : maxLen = 9223372036854775807 := (by decide); omega
 have hb0 : Below w.heap.size w (w.alloc (.cells #[.int .i64 op, .int .i64 n, .string s, .slice ka kn kc, .slice na ns.length nc, .slice a l.length c] 28)) := (Below.refl _ _).alloc (Nat.le_refl _) _
 have gC := nHQ w (.cells #[.int .i64 op, .int .i64 n, .string s, .slice ka kn kc, .slice na ns.length nc, .slice a l.length c] 28)
 have hsz0 : (w.alloc (.cells #[.int .i64 op, .int .i64 n, .string s, .slice ka kn kc, .slice na ns.length nc, .slice a l.length c] 28)).heap.size = w.heap.size + 1 := by simp
 obtain ⟨c0, c1, c2, c3, c4, c5⟩ := cnQ gC
 have HP := hJQ (iBQ h hb0).parts
 have HC0 := hJQ (iBQ h hb0)
 have hxv := cVQ (op := op) (n := n) (s := s) (nv := .slice na ns.length nc) (lv := .slice a l.length c) (ns := ns) (l := l) hks
 have hg1 := gAQ (w.alloc (.cells #[.int .i64 op, .int .i64 n, .string s, .slice ka kn kc, .slice na ns.length nc, .slice a l.length c] 28)) (.cells #[.int .i64 0, .int .i64 0, .string ⟨#[]⟩, .slice none 0 0, .slice none 0 0, .slice none 0 0] 28)
 have kR : ((w.alloc (.cells #[.int .i64 op, .int .i64 n, .string s, .slice ka kn kc, .slice na ns.length nc, .slice a l.length c] 28)).alloc (.cells #[.int .i64 0, .int .i64 0, .string ⟨#[]⟩, .slice none 0 0, .slice none 0 0, .slice none 0 0] 28)).heap[w.heap.size + 1]? = _ := (congrArg _ hsz0.symm).trans (nHQ (w.alloc (.cells #[.int .i64 op, .int .i64 n, .string s, .slice ka kn kc, .slice na ns.length nc, .slice a l.length c] 28)) (.cells #[.int .i64 0, .int .i64 0, .string ⟨#[]⟩, .slice none 0 0, .slice none 0 0, .slice none 0 0] 28))
 have kB := (hg1.block w.heap.size (by omega) (by nofun)).trans gC
 have hgW := gBQ (gAQ w (.cells #[.int .i64 op, .int .i64 n, .string s, .slice ka kn kc, .slice na ns.length nc, .slice a l.length c] 28)) hg1
 have kC := hC.grown hgW (by nofun)
 have hlk := hLQ hC
 have hszW : ((w.alloc (.cells #[.int .i64 op, .int .i64 n, .string s, .slice ka kn kc, .slice na ns.length nc, .slice a l.length c] 28)).alloc (.cells #[.int .i64 0, .int .i64 0, .string ⟨#[]⟩, .slice none 0 0, .slice none 0 0, .slice none 0 0] 28)).heap.size = w.heap.size + 2 := by simp
 have HS := nsize_any P _ _ (h.grown hgW (by nofun)) hsz
 rw [hxv] at HS
 have HS := hJQ HS
 have HXV := hJQ hxv
 have hds := depth_size (pC (.mk op n s k (.slice na ns.length nc) ns (.slice a l.length c) l))
 have HSm : Hid (smallC (pC (.mk op n s k (.slice na ns.length nc) ns (.slice a l.length c) l)) = (decide (sizeC (pC (.mk op n s k (.slice na ns.length nc) ns (.slice a l.length c) l))<=20000) && decide (dCQ (pC (.mk op n s k (.slice na ns.length nc) ns (.slice a l.length c) l))<=400))) := rfl
 show Calls _ _ _ _ (KeptOk kb (.mk op n s k (.slice na ns.length nc) ns (.slice a l.length c) l) steps over w)
 unfold KeptOk
 generalize hpx : pC (.mk op n s k (.slice na ns.length nc) ns (.slice a l.length c) l) = px at *
 clear hpx c0 c1 c2 c3 c4 c5 h hb0 gC HP HC0 hsz0 hg1 hC hxv hks
 have HZ : Hid (conV zeroD = .agg #[.int .i64 0, .int .i64 0, .string ⟨#[]⟩, .slice none 0 0, .slice none 0 0, .slice none 0 0]) := rfl
 have HGW := hJQ (fNQ hgW (some kb))
 clear hgW
 cases over
 ·go_enter Tryz.func95, Tryz.ntmps95
  go_upto_region 1 with fail
  generalize (w.alloc (.cells #[.int .i64 op, .int .i64 n, .string s, .slice ka kn kc, .slice na ns.length nc, .slice a l.length c] 28)).alloc (.cells #[.int .i64 0, .int .i64 0, .string ⟨#[]⟩, .slice none 0 0, .slice none 0 0, .slice none 0 0] 28) = W at *
  obtain ⟨k0, k1, f0, f1⟩ := kC.cells
  obtain ⟨c0, c1, c2, c3, c4, c5⟩ := cnQ kB
  go_wp2_with fail
  refine HS.out.mono ?_
  rintro e w2 ⟨rfl, hb2⟩
  have hg2 := gLQ hb2
  have kR2 := (hb2.block _ (hLQ kR)).trans kR
  have kB2 := (hb2.block _ (hLQ kB)).trans kB
  have kC2 := kC.grown hg2 (by nofun)
  have hs2 := hb2.size
  have HG2 := hJQ (gBQ HGW.out (fNQ hg2 (some kb)))
  obtain ⟨d0, d1, d2, d3, d4, d5⟩ := cnQ kB2
  obtain ⟨j0, j1, g0, g1⟩ := kC2.cells
  clear HS kR kB kC k0 k1 f0 f1 c0 c1 c2 c3 c4 c5 hb2 hg2
  have hover : ((sizeC px : Int)<=20000/\(dCQ px : Int)<=400/\smallC px = true) ∨ (smallC px = false/\(20000 < (sizeC px : Int) ∨ (¬ 20000 < (sizeC px : Int)/\400 < (dCQ px : Int)))) := by
   rw [HSm.out]
   by_cases h1 : sizeC px<=20000
   ·by_cases h2 : dCQ px<=400
    ·exact .inl ⟨by omega, by omega, by rw [decide_eq_true h1, decide_eq_true h2]; rfl⟩
    ·exact .inr ⟨by rw [decide_eq_false h2, Bool.and_false], .inr ⟨by omega, by omega⟩⟩
   ·exact .inr ⟨by rw [decide_eq_false h1]; rfl, .inl (by omega)⟩
  rcases hover with ⟨o1, o2, o3⟩ | ⟨o3, o4⟩
  ·have HO := hJQ o3
   clear o3
   have hrow := gRQ w2 (w.heap.size + 1) #[.int .i64 op, .int .i64 n, .string s, .slice ka kn kc, .slice na ns.length nc, .slice a l.length c]
   have HRF := hJQ (setRow_heap w2 (w.heap.size + 1) _ #[.int .i64 op, .int .i64 n, .string s, .slice ka kn kc, .slice na ns.length nc, .slice a l.length c] _ _ kR2)
   have HGF := hJQ (gOQ HG2.out hrow (by omega))
   have HCF := hJQ ((kC2).grown hrow (by intro e; have e2 : w.heap.size + 1 = kb := oJQ e; omega))
   clear hrow
   go_wp2_with (refine wpList_store_row rfl 28 _ _ rfl (w.heap.size + 1) _ rfl rfl 28 _ kR2 cIQ rfl (all_one _ rfl) ?_)
   refine bodyPost_ret (results_cell_row rfl _ _ (w.heap.size + 1) 28 #[.int .i64 op, .int .i64 n, .string s, .slice ka kn kc, .slice na ns.length nc, .slice a l.length c] (0, 0) _ rfl HRF.out Tryz.underlying28 rfl cIQ) rfl ?_
   exact ⟨_, by rw [HXV.out], by rw [HO.out]; exact HCF.out, HGF.out, fun _ => rfl, fun hh => by rw [HO.out] at hh; cases hh⟩
  ·have HO := hJQ o3
   clear o3
   have hS := gSQ w2 kb 1 (.bool true)
   have kC3 := kC2.set1 true
   have kR3 := (hS.block (w.heap.size + 1) (hLQ kR2) (fun e => by have e2 : w.heap.size + 1 = kb := oJQ e; omega)).trans kR2
   have HG3 := hJQ (gBQ HG2.out hS)
   clear hS
   rcases o4 with o4 | ⟨o4, o5⟩
   ·have hrow := gRQ (w2.setCell ⟨kb, 1, none⟩ (.bool true)) (w.heap.size + 1) #[.int .i64 0, .int .i64 0, .string ⟨#[]⟩, .slice none 0 0, .slice none 0 0, .slice none 0 0]
    have HRF := hJQ (setRow_heap (w2.setCell ⟨kb, 1, none⟩ (.bool true)) (w.heap.size + 1) _ #[.int .i64 0, .int .i64 0, .string ⟨#[]⟩, .slice none 0 0, .slice none 0 0, .slice none 0 0] _ _ kR3)
    have HGF := hJQ (gOQ HG3.out hrow (by omega))
    have HCF := hJQ ((kC3).grown hrow (by intro e; have e2 : w.heap.size + 1 = kb := oJQ e; omega))
    clear hrow
    go_wp2_with (refine wpList_store_row rfl 28 _ _ rfl (w.heap.size + 1) _ rfl rfl 28 _ kR3 cIQ rfl (all_one _ rfl) ?_)
    refine bodyPost_ret (results_cell_row rfl _ _ (w.heap.size + 1) 28 #[.int .i64 0, .int .i64 0, .string ⟨#[]⟩, .slice none 0 0, .slice none 0 0, .slice none 0 0] (0, 0) _ rfl HRF.out Tryz.underlying28 rfl cIQ) rfl ?_
    exact ⟨zeroD, by rw [HZ.out], by rw [HO.out]; exact HCF.out, HGF.out, fun hh => (by rw [HO.out] at hh; cases hh), fun _ => rfl⟩
   ·have hrow := gRQ (w2.setCell ⟨kb, 1, none⟩ (.bool true)) (w.heap.size + 1) #[.int .i64 0, .int .i64 0, .string ⟨#[]⟩, .slice none 0 0, .slice none 0 0, .slice none 0 0]
    have HRF := hJQ (setRow_heap (w2.setCell ⟨kb, 1, none⟩ (.bool true)) (w.heap.size + 1) _ #[.int .i64 0, .int .i64 0, .string ⟨#[]⟩, .slice none 0 0, .slice none 0 0, .slice none 0 0] _ _ kR3)
    have HGF := hJQ (gOQ HG3.out hrow (by omega))
    have HCF := hJQ ((kC3).grown hrow (by intro e; have e2 : w.heap.size + 1 = kb := oJQ e; omega))
    clear hrow
    go_wp2_with (refine wpList_store_row rfl 28 _ _ rfl (w.heap.size + 1) _ rfl rfl 28 _ kR3 cIQ rfl (all_one _ rfl) ?_)
    refine bodyPost_ret (results_cell_row rfl _ _ (w.heap.size + 1) 28 #[.int .i64 0, .int .i64 0, .string ⟨#[]⟩, .slice none 0 0, .slice none 0 0, .slice none 0 0] (0, 0) _ rfl HRF.out Tryz.underlying28 rfl cIQ) rfl ?_
    exact ⟨zeroD, by rw [HZ.out], by rw [HO.out]; exact HCF.out, HGF.out, fun hh => (by rw [HO.out] at hh; cases hh), fun _ => rfl⟩
 ·go_enter Tryz.func95, Tryz.ntmps95
  go_upto_region 1 with fail
  generalize (w.alloc (.cells #[.int .i64 op, .int .i64 n, .string s, .slice ka kn kc, .slice na ns.length nc, .slice a l.length c] 28)).alloc (.cells #[.int .i64 0, .int .i64 0, .string ⟨#[]⟩, .slice none 0 0, .slice none 0 0, .slice none 0 0] 28) = W at *
  obtain ⟨k0, k1, f0, f1⟩ := kC.cells
  have hrow := gRQ W (w.heap.size + 1) #[.int .i64 0, .int .i64 0, .string ⟨#[]⟩, .slice none 0 0, .slice none 0 0, .slice none 0 0]
  have HRF := hJQ (setRow_heap W (w.heap.size + 1) _ #[.int .i64 0, .int .i64 0, .string ⟨#[]⟩, .slice none 0 0, .slice none 0 0, .slice none 0 0] _ _ kR)
  have HGF := hJQ (gOQ HGW.out hrow (by omega))
  have HCF := hJQ ((kC).grown hrow (by intro e; have e2 : w.heap.size + 1 = kb := oJQ e; omega))
  clear hrow
  go_wp2_with (refine wpList_store_row rfl 28 _ _ rfl (w.heap.size + 1) _ rfl rfl 28 _ kR cIQ rfl (all_one _ rfl) ?_)
  refine bodyPost_ret (results_cell_row rfl _ _ (w.heap.size + 1) 28 #[.int .i64 0, .int .i64 0, .string ⟨#[]⟩, .slice none 0 0, .slice none 0 0, .slice none 0 0] (0, 0) _ rfl HRF.out Tryz.underlying28 rfl cIQ) rfl ?_
  exact ⟨zeroD, by rw [HZ.out], HCF.out, HGF.out, fun hh => (by cases hh), fun _ => rfl⟩
end Go.Proofs.YtkiffgdinmpljaaGreatDoor
