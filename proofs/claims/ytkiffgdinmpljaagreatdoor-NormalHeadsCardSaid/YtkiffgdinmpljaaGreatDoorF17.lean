/- (*counter).kept. Printed by gen_kept.py, expanded by mac.py. eta, isNormal. Expanded by mac.py. all and Subst. Expanded by mac.py. -/
import Derived.Test.YtkiffgdinmpljaaGreatDoorF11
import Derived.Test.YtkiffgdinmpljaaGreatDoorF15
import Derived.Test.YtkiffgdinmpljaaGreatDoorF13
set_option linter.unusedVariables false
set_option linter.unusedSimpArgs false
namespace Go.Proofs.YtkiffgdinmpljaaGreatDoor
open Go Go.RowKit
set_option maxHeartbeats 8000000
set_option maxRecDepth 100000
def CtAt (V : World) (kb : Nat) (steps : Int) (over : Bool) : Prop := V.heap[kb]? = some (.cells #[.int .i64 steps, .bool over] 75 (0, 0))
theorem CtAt.cells {V : World} {kb : Nat} {steps : Int} {over : Bool} (h : CtAt V kb steps over) : V.cell? ⟨kb, 0, none⟩ = some (.int .i64 steps)/\V.cell? ⟨kb, 1, none⟩ = some (.bool over)/\V.frozen? ⟨kb, 0, none⟩ = false/\V.frozen? ⟨kb, 1, none⟩ = false := by
 unfold CtAt at h
 refine ⟨by simp [World.cell?, h], by simp [World.cell?, h], Lib.frozen_of_heap h 0, Lib.frozen_of_heap h 1⟩
theorem CtAt.grown {V V' : World} {kb : Nat} {steps : Int} {over : Bool} {r : Option Nat} (h : CtAt V kb steps over) (hg : V.grownBy V' r) (hr : r ≠ some kb) : CtAt V' kb steps over := (hg.block _ (hLQ h) (fun e => hr e.symm)).trans h
theorem CtAt.set0 {V : World} {kb : Nat} {steps : Int} {over : Bool} (h : CtAt V kb steps over) (s' : Int) : CtAt (V.setCell ⟨kb, 0, none⟩ (.int .i64 s')) kb s' over := heap_set_same h _
theorem CtAt.set1 {V : World} {kb : Nat} {steps : Int} {over : Bool} (h : CtAt V kb steps over) (b : Bool) : CtAt (V.setCell ⟨kb, 1, none⟩ (.bool b)) kb steps b := heap_set_same h _
def zeroD : ConD := .mk 0 0 ⟨#[]⟩ (.mk (.slice none 0 0) []) (.slice none 0 0) [] (.slice none 0 0) []
def KeptOk (kb : Nat) (x : ConD) (steps : Int) (over : Bool) (w : World) (e : Ending) (w' : World) : Prop :=
 ∃ d : ConD, e = .returned (conV d)/\CtAt w' kb steps (over || !smallC (pC x))/\w.grownBy w' (some kb)/\((over || !smallC (pC x)) = false->d = x)/\((over || !smallC (pC x)) = true->d = zeroD)
theorem kept_any (P : Nat->Prop) (x : ConD) (kb : Nat) (steps : Int) (over : Bool) (w : World) (h : IsCon P w x) (hC : CtAt w kb steps over) (hsz : sizeC (pC x)<=1000000000) :
 Calls Tryz.prog 95 #[.pointer (some ⟨kb, 0, none⟩), conV x] w (KeptOk kb x steps over w) := by
 obtain ⟨op, n, s, k, nv, ns, lv, l⟩ := x
 obtain ⟨ka, kc, kn, na, nc, a, c, rfl, _, rfl, _, hks, hcv, hll, hnn, hb0, gC, hsz0, HP, HC0, c0, c1, c2, c3, c4, c5⟩ := open_box h
 rw [hcv]
 clear hcv
 have hxv := cVQ (op := op) (n := n) (s := s) (nv := .slice na ns.length nc) (lv := .slice a l.length c) (ns := ns) (l := l) hks
 obtain ⟨hg1, kR, kB, hszW⟩ := fo_box gC
 have hgW := gBQ (gAQ w (.cells #[.int .i64 op, .int .i64 n, .string s, .slice ka kn kc, .slice na ns.length nc, .slice a l.length c] 28)) hg1
 have kC := hC.grown hgW (by nofun)
 have hlk := hLQ hC
 have HS := nsize_any P _ _ (h.grown hgW (by nofun)) hsz
 rw [hxv] at HS
 have HS := hJQ HS
 have HXV := hJQ hxv
 have hds := depth_size (pC (.mk op n s k (.slice na ns.length nc) ns (.slice a l.length c) l))
 have HSm : Hid (smallC (pC (.mk op n s k (.slice na ns.length nc) ns (.slice a l.length c) l)) = (decide (sizeC (pC (.mk op n s k (.slice na ns.length nc) ns (.slice a l.length c) l))<=20000) && decide (dCQ (pC (.mk op n s k (.slice na ns.length nc) ns (.slice a l.length c) l))<=400))) := rfl
 show Calls _ _ _ _ (KeptOk kb (.mk op n s k (.slice na ns.length nc) ns (.slice a l.length c) l) steps over w)
 unfold KeptOk
 generalize hpx : pC (.mk op n s k (.slice na ns.length nc) ns (.slice a l.length c) l) = px at *
 clear hpx c0 c1 c2 c3 c4 c5 h hb0 gC HP HC0 hsz0 hg1 hC hxv hks
 have HZ : Hid (conV zeroD = .agg #[.int .i64 0, .int .i64 0, .string ⟨#[]⟩, .slice none 0 0, .slice none 0 0, .slice none 0 0]) := rfl
 have HGW := hJQ (fNQ hgW (some kb))
 clear hgW
 cases over
 ·go_enter Tryz.func95, Tryz.ntmps95
  go_upto_region 1 with fail
  generalize (w.alloc (.cells #[.int .i64 op, .int .i64 n, .string s, .slice ka kn kc, .slice na ns.length nc, .slice a l.length c] 28)).alloc (.cells #[.int .i64 0, .int .i64 0, .string ⟨#[]⟩, .slice none 0 0, .slice none 0 0, .slice none 0 0] 28) = W at *
  obtain ⟨k0, k1, f0, f1⟩ := kC.cells
  obtain ⟨c0, c1, c2, c3, c4, c5⟩ := cnQ kB
  go_wp2_with fail
  refine HS.out.mono ?_
  rintro e w2 ⟨rfl, hb2⟩
  have hg2 := gLQ hb2
  have kR2 := (hb2.block _ (hLQ kR)).trans kR
  have kB2 := (hb2.block _ (hLQ kB)).trans kB
  have kC2 := kC.grown hg2 (by nofun)
  have hs2 := hb2.size
  have HG2 := hJQ (gBQ HGW.out (fNQ hg2 (some kb)))
  obtain ⟨d0, d1, d2, d3, d4, d5⟩ := cnQ kB2
  obtain ⟨j0, j1, g0, g1⟩ := kC2.cells
  clear HS kR kB kC k0 k1 f0 f1 c0 c1 c2 c3 c4 c5 hb2 hg2
  have hover : ((sizeC px : Int)<=20000/\(dCQ px : Int)<=400/\smallC px = true) ∨ (smallC px = false/\(20000 < (sizeC px : Int) ∨ (¬ 20000 < (sizeC px : Int)/\400 < (dCQ px : Int)))) := by
   rw [HSm.out]
   by_cases h1 : sizeC px<=20000
   ·by_cases h2 : dCQ px<=400
    ·exact .inl ⟨by omega, by omega, by rw [decide_eq_true h1, decide_eq_true h2]; rfl⟩
    ·exact .inr ⟨by rw [decide_eq_false h2, Bool.and_false], .inr ⟨by omega, by omega⟩⟩
   ·exact .inr ⟨by rw [decide_eq_false h1]; rfl, .inl (by omega)⟩
  rcases hover with ⟨o1, o2, o3⟩ | ⟨o3, o4⟩
  ·have HO := hJQ o3
   clear o3
   have hrow := gRQ w2 (w.heap.size + 1) #[.int .i64 op, .int .i64 n, .string s, .slice ka kn kc, .slice na ns.length nc, .slice a l.length c]
   have HRF := hJQ (setRow_heap w2 (w.heap.size + 1) _ #[.int .i64 op, .int .i64 n, .string s, .slice ka kn kc, .slice na ns.length nc, .slice a l.length c] _ _ kR2)
   have HGF := hJQ (gOQ HG2.out hrow (by omega))
   have HCF := hJQ ((kC2).grown hrow (by intro e; have e2 : w.heap.size + 1 = kb := oJQ e; omega))
   clear hrow
   go_wp2_with (refine wpList_store_row rfl 28 _ _ rfl (w.heap.size + 1) _ rfl rfl 28 _ kR2 cIQ rfl (all_one _ rfl) ?_)
   refine bodyPost_ret (results_cell_row rfl _ _ (w.heap.size + 1) 28 #[.int .i64 op, .int .i64 n, .string s, .slice ka kn kc, .slice na ns.length nc, .slice a l.length c] (0, 0) _ rfl HRF.out Tryz.underlying28 rfl cIQ) rfl ?_
   exact ⟨_, by rw [HXV.out], by rw [HO.out]; exact HCF.out, HGF.out, fun _ => rfl, fun hh => by rw [HO.out] at hh; cases hh⟩
  ·have HO := hJQ o3
   clear o3
   have hS := gSQ w2 kb 1 (.bool true)
   have kC3 := kC2.set1 true
   have kR3 := (hS.block (w.heap.size + 1) (hLQ kR2) (fun e => by have e2 : w.heap.size + 1 = kb := oJQ e; omega)).trans kR2
   have HG3 := hJQ (gBQ HG2.out hS)
   clear hS
   rcases o4 with o4 | ⟨o4, o5⟩
   ·have hrow := gRQ (w2.setCell ⟨kb, 1, none⟩ (.bool true)) (w.heap.size + 1) #[.int .i64 0, .int .i64 0, .string ⟨#[]⟩, .slice none 0 0, .slice none 0 0, .slice none 0 0]
    have HRF := hJQ (setRow_heap (w2.setCell ⟨kb, 1, none⟩ (.bool true)) (w.heap.size + 1) _ #[.int .i64 0, .int .i64 0, .string ⟨#[]⟩, .slice none 0 0, .slice none 0 0, .slice none 0 0] _ _ kR3)
    have HGF := hJQ (gOQ HG3.out hrow (by omega))
    have HCF := hJQ ((kC3).grown hrow (by intro e; have e2 : w.heap.size + 1 = kb := oJQ e; omega))
    clear hrow
    go_wp2_with (refine wpList_store_row rfl 28 _ _ rfl (w.heap.size + 1) _ rfl rfl 28 _ kR3 cIQ rfl (all_one _ rfl) ?_)
    refine bodyPost_ret (results_cell_row rfl _ _ (w.heap.size + 1) 28 #[.int .i64 0, .int .i64 0, .string ⟨#[]⟩, .slice none 0 0, .slice none 0 0, .slice none 0 0] (0, 0) _ rfl HRF.out Tryz.underlying28 rfl cIQ) rfl ?_
    exact ⟨zeroD, by rw [HZ.out], by rw [HO.out]; exact HCF.out, HGF.out, fun hh => (by rw [HO.out] at hh; cases hh), fun _ => rfl⟩
   ·have hrow := gRQ (w2.setCell ⟨kb, 1, none⟩ (.bool true)) (w.heap.size + 1) #[.int .i64 0, .int .i64 0, .string ⟨#[]⟩, .slice none 0 0, .slice none 0 0, .slice none 0 0]
    have HRF := hJQ (setRow_heap (w2.setCell ⟨kb, 1, none⟩ (.bool true)) (w.heap.size + 1) _ #[.int .i64 0, .int .i64 0, .string ⟨#[]⟩, .slice none 0 0, .slice none 0 0, .slice none 0 0] _ _ kR3)
    have HGF := hJQ (gOQ HG3.out hrow (by omega))
    have HCF := hJQ ((kC3).grown hrow (by intro e; have e2 : w.heap.size + 1 = kb := oJQ e; omega))
    clear hrow
    go_wp2_with (refine wpList_store_row rfl 28 _ _ rfl (w.heap.size + 1) _ rfl rfl 28 _ kR3 cIQ rfl (all_one _ rfl) ?_)
    refine bodyPost_ret (results_cell_row rfl _ _ (w.heap.size + 1) 28 #[.int .i64 0, .int .i64 0, .string ⟨#[]⟩, .slice none 0 0, .slice none 0 0, .slice none 0 0] (0, 0) _ rfl HRF.out Tryz.underlying28 rfl cIQ) rfl ?_
    exact ⟨zeroD, by rw [HZ.out], by rw [HO.out]; exact HCF.out, HGF.out, fun hh => (by rw [HO.out] at hh; cases hh), fun _ => rfl⟩
 ·go_enter Tryz.func95, Tryz.ntmps95
  go_upto_region 1 with fail
  generalize (w.alloc (.cells #[.int .i64 op, .int .i64 n, .string s, .slice ka kn kc, .slice na ns.length nc, .slice a l.length c] 28)).alloc (.cells #[.int .i64 0, .int .i64 0, .string ⟨#[]⟩, .slice none 0 0, .slice none 0 0, .slice none 0 0] 28) = W at *
  obtain ⟨k0, k1, f0, f1⟩ := kC.cells
  have hrow := gRQ W (w.heap.size + 1) #[.int .i64 0, .int .i64 0, .string ⟨#[]⟩, .slice none 0 0, .slice none 0 0, .slice none 0 0]
  have HRF := hJQ (setRow_heap W (w.heap.size + 1) _ #[.int .i64 0, .int .i64 0, .string ⟨#[]⟩, .slice none 0 0, .slice none 0 0, .slice none 0 0] _ _ kR)
  have HGF := hJQ (gOQ HGW.out hrow (by omega))
  have HCF := hJQ ((kC).grown hrow (by intro e; have e2 : w.heap.size + 1 = kb := oJQ e; omega))
  clear hrow
  go_wp2_with (refine wpList_store_row rfl 28 _ _ rfl (w.heap.size + 1) _ rfl rfl 28 _ kR cIQ rfl (all_one _ rfl) ?_)
  refine bodyPost_ret (results_cell_row rfl _ _ (w.heap.size + 1) 28 #[.int .i64 0, .int .i64 0, .string ⟨#[]⟩, .slice none 0 0, .slice none 0 0, .slice none 0 0] (0, 0) _ rfl HRF.out Tryz.underlying28 rfl cIQ) rfl ?_
  exact ⟨zeroD, by rw [HZ.out], HCF.out, HGF.out, fun hh => (by cases hh), fun _ => rfl⟩
theorem eta_any (P : Nat->Prop) (x : ConD) (w : World) (h : IsCon P w x) (hf : frmC (pC x) = true) (hdp : dCQ (pC x)<=900000) :
 Calls Tryz.prog 57 #[conV x] w (EtaOk x w) := by
 obtain ⟨op, n, s, k, nv, ns, lv, l⟩ := x
 by_cases q1 : op = 11
 ·subst q1
  rw [pMQ] at hf hdp
  obtain ⟨y, rfl⟩ := one_part hf rfl
  by_cases q2 : y.op = 12
  ·obtain ⟨yop, yn, ys, yk, ynv, yns, ylv, yl⟩ := y
   have q2 : yop = 12 := q2
   subst q2
   have hfy : frmC (pC (.mk 12 yn ys yk ynv yns ylv yl)) = true := (fSQ hf).2.2.2.1 _ (by simp)
   rw [pMQ] at hfy
   obtain ⟨fd, gd, rfl⟩ := two_parts hfy
   refine eta_app P n s k nv ns lv yn ys yk ynv yns ylv fd gd w h ?_
   rw [depthC_mk, List.map_cons, List.map_nil, depthCL_cons, pMQ, depthC_mk, List.map_cons, depthCL_cons] at hdp
   omega
  ·exact eta_part P n s k nv ns lv y w h q2
 ·exact eta_no P op n s k nv ns lv l w h q1
def NormAll (x : ConD) : Prop := ∀ (P : Nat->Prop) (w : World), IsCon P w x->frmC (pC x) = true->dCQ (pC x)<=900000->Calls Tryz.prog 28 #[conV x] w fun e w' => e = .returned (.bool (normalC (pC x)))/\Below w.heap.size w w'
theorem norm1_any (P : Nat->Prop) (x : ConD) (H : NormAll x) (w : World) (h : IsCon P w x) (hf : frmC (pC x) = true) (hd : dCQ (pC x)<=900000) :
 Calls Tryz.prog 58 (#[conV x] ++ #[]) w fun e w' => e = .returned (.bool (!normalC (pC x)))/\Below w.heap.size w w' := by
 obtain ⟨op, n, s, k, nv, ns, lv, l⟩ := x
 obtain ⟨ka, kc, kn, na, nc, a, c, rfl, _, rfl, _, hks, hcv, hll, hnn, hb0, gC, hsz0, HP, HC0, c0, c1, c2, c3, c4, c5⟩ := open_box h
 rw [hcv]
 clear hcv
 have HC := hJQ (H P _ HC0.out hf hd)
 rw [cVQ hks] at HC
 clear h hks HP HC0 hf hd hsz0 gC H
 generalize pC (.mk op n s k (.slice na ns.length nc) ns (.slice a l.length c) l) = x at *
 go_enter Tryz.func58, Tryz.ntmps58
 go_wp2_with fail
 refine HC.out.mono ?_
 rintro e w2 ⟨rfl, hb2⟩
 have hbz := hb0.trans (hb2.mono hb0.size)
 clear HC
 go_wp2_with fail
 go_ret
 exact ⟨rfl, hbz⟩
theorem normL_any (P : Nat->Prop) (v : Value) (l : List ConD) (H : ∀ y ∈ l, NormAll y) (w : World) (h : RowP P w v l.length (cCQ l)) (hm : l.length<=9223372036854775807) (ha : ∀ y ∈ l, IsCon P w y) (hf : ∀ y ∈ l.map pC, frmC y = true/\dCQ y<=900000) :
 Calls Tryz.prog 22 #[v, .func (.func 58) #[] #[]] w fun e w' => e = .returned (.bool (!(l.map pC).all normalC))/\Below w.heap.size w w' := by
 refine (containsC_any 58 #[] (enters_of Tryz.func58 (by kernel_rfl) rfl) P v l (fun j V => ((l.map pC).take j).all normalC = true/\Below w.heap.size w V) (fun j V => (j < l.length->normalC (pC (l.getD j default)) = false)/\Below w.heap.size w V) w ⟨by rw [List.take_zero]; rfl, Below.refl _ _⟩ (fun j V hI => Kept.of_below hI.2) (fun j V hj hI => ?_) h hm ha).mono ?_
 ·have hmem := mem_getD l j hj
  have hf' := hf _ (List.mem_map_of_mem (f := pC) hmem)
  refine (norm1_any P (l.getD j default) (H _ hmem) V (iBQ (ha _ hmem) hI.2) hf'.1 hf'.2).mono fun e V' ⟨he, hb⟩ => ⟨_, he, fun hb1 => ⟨fun _ => by simpa using hb1, hI.2.trans (hb.mono hI.2.size)⟩, fun hb1 => ⟨?_, hI.2.trans (hb.mono hI.2.size)⟩⟩
  have hT : (l.map pC).take (j + 1) = (l.map pC).take j ++ [pC (l.getD j default)] := by
   rw [take_get default _ j (by rw [List.length_map]; exact hj), map_getD pC l j hj]
  have hb2 : normalC (pC (l.getD j default)) = true := by cases hq : normalC (pC (l.getD j default)) with
   | true => rfl
   | false => rw [hq] at hb1; cases hb1
  rw [hT, List.all_append, hI.1, List.all_cons, List.all_nil, hb2]; rfl
 ·rintro e w' ⟨b, rfl, hy, hn⟩
  cases b
  ·obtain ⟨h1, h2⟩ := hn rfl
   rw [take_all] at h1
   exact ⟨by rw [h1]; rfl, h2⟩
  ·obtain ⟨j, hj, h1, h2⟩ := hy rfl
   refine ⟨?_, h2⟩
   have : (l.map pC).all normalC = false := by
    rw [List.all_eq_false]; exact ⟨_, List.mem_map_of_mem (mem_getD l j hj), by rw [h1 hj]; decide⟩
   rw [this]; rfl
theorem isNormal_any : ∀ x : ConD, NormAll x := by
 refine ConD.ind (fun op n s k nv ns lv l ih P w h hf hd => ?_)
 have HEta := eta_any P _ w h hf hd
 have hfz := fSQ (by rw [pMQ] at hf; exact hf)
 have hdl : ∀ y ∈ l.map pC, frmC y = true/\dCQ y<=900000 := fun y hy => ⟨hfz.2.2.2.1 y hy, by
  rw [pMQ, depthC_mk] at hd
  have := depthCL_ge' _ _ hy
  omega⟩
 have hRed : normalC (pC (.mk op n s k nv ns lv l)) = (!((op == 12 && ((l.map pC).getD 0 default).op == 11) || etaC (pC (.mk op n s k nv ns lv l))) && (l.map pC).all normalC) := by
  rw [pMQ, normalC_mk]; rfl
 obtain ⟨ka, kc, kn, na, nc, a, c, rfl, _, rfl, _, hks, hcv, hll, hnn, hb0, gC, hsz0, HP, HC0, c0, c1, c2, c3, c4, c5⟩ := open_box h
 rw [hcv]
 clear hcv
 have hPW := cVQ (op := op) (n := n) (s := s) (nv := .slice na ns.length nc) (lv := .slice a l.length c) (ns := ns) (l := l) hks
 have HEta : Hid (∀ W, Below w.heap.size w W->Calls Tryz.prog 57 #[(.agg #[.int .i64 op, .int .i64 n, .string s, .slice ka kn kc, .slice na ns.length nc, .slice a l.length c])] W fun e w' => e = .returned (.bool (etaC (pC (.mk op n s k (.slice na ns.length nc) ns (.slice a l.length c) l))))/\Below W.heap.size W w') := fun W hW => by
  rw [← hPW]; exact eta_any P _ W (iBQ h hW) hf hd
 have HLs : Hid (∀ W, Below w.heap.size w W->Calls Tryz.prog 22 #[.slice a l.length c, .func (.func 58) #[] #[]] W fun e w' => e = .returned (.bool (!(l.map pC).all normalC))/\Below W.heap.size W w') := fun W hW => normL_any P _ l ih W (rowP_below h.parts.row hW) hll (fun y hy => iBQ (h.parts.all y hy) hW) hdl
 have hHF : ∀ b, normalC (pC (.mk op n s k (.slice na ns.length nc) ns (.slice a l.length c) l)) = b->Ending.returned (.bool b) = Ending.returned (.bool (normalC (pC (.mk op n s k (.slice na ns.length nc) ns (.slice a l.length c) l)))) := fun b hb => by rw [hb]
 have HF := hJQ hHF
 have HRed := hJQ hRed
 have hlt : w.heap.size < (w.alloc (.cells #[.int .i64 op, .int .i64 n, .string s, .slice ka kn kc, .slice na ns.length nc, .slice a l.length c] 28)).heap.size := by omega
 have hcase : (op = 12/\∃ fd gd, l = [fd, gd]) ∨ op ≠ 12 := by
  by_cases h12 : op = 12
  ·subst h12
   rw [pMQ] at hf
   exact .inl ⟨rfl, two_parts hf⟩
  ·exact .inr h12
 have HP2 := HP
 clear hHF hRed hf hd hfz hdl hPW ih HC0
 rcases hcase with ⟨rfl, fd, gd, rfl⟩ | q12
 ·obtain ⟨b, off, rfl, ⟨_, hbl⟩, f0, f1, f2, f3, f4, f5⟩ := part_0 (x := fd) (l := [gd]) HP2.out.row
  have hb0 : Below w.heap.size w (w.alloc (.cells #[.int .i64 12, .int .i64 n, .string s, .slice ka kn kc, .slice na ns.length nc, .slice (some ⟨b, off, none⟩) 2 c] 28)) := hb0
  have gC : (w.alloc (.cells #[.int .i64 12, .int .i64 n, .string s, .slice ka kn kc, .slice na ns.length nc, .slice (some ⟨b, off, none⟩) 2 c] 28)).heap[w.heap.size]? = some (.cells #[.int .i64 12, .int .i64 n, .string s, .slice ka kn kc, .slice na ns.length nc, .slice (some ⟨b, off, none⟩) 2 c] 28 (0, 0)) := gC
  have f0 : (w.alloc (.cells #[.int .i64 12, .int .i64 n, .string s, .slice ka kn kc, .slice na ns.length nc, .slice (some ⟨b, off, none⟩) 2 c] 28)).cell? ⟨b, off, none⟩ = some (.int .i64 fd.op) := f0
  have hlt : w.heap.size < (w.alloc (.cells #[.int .i64 12, .int .i64 n, .string s, .slice ka kn kc, .slice na ns.length nc, .slice (some ⟨b, off, none⟩) 2 c] 28)).heap.size := hlt
  have HEta : Hid (∀ W, Below w.heap.size w W->Calls Tryz.prog 57 #[(.agg #[.int .i64 12, .int .i64 n, .string s, .slice ka kn kc, .slice na ns.length nc, .slice (some ⟨b, off, none⟩) 2 c])] W fun e w' => e = .returned (.bool (etaC (pC (.mk 12 n s k (.slice na ns.length nc) ns (.slice (some ⟨b, off, none⟩) 2 c) [fd, gd]))))/\Below W.heap.size W w') := HEta
  have HLs : Hid (∀ W, Below w.heap.size w W->Calls Tryz.prog 22 #[.slice (some ⟨b, off, none⟩) 2 c, .func (.func 58) #[] #[]] W fun e w' => e = .returned (.bool (!([fd, gd].map pC).all normalC))/\Below W.heap.size W w') := HLs
  clear c0 c1 c2 c3 c4 c5
  obtain ⟨c0, c1, c2, c3, c4, c5⟩ := cnQ gC
  show Calls Tryz.prog 28 #[(.agg #[.int .i64 12, .int .i64 n, .string s, .slice ka kn kc, .slice na ns.length nc, .slice (some ⟨b, off, none⟩) 2 c])] w _
  by_cases q11 : fd.op = 11
  ·have HE := HF.out false (by
    rw [HRed.out]
    have : (((fd :: [gd]).map pC).getD 0 default).op = 11 := by show (pC fd).op = 11; rw [ConD.op_pure]; exact q11
    rw [this]; rfl)
   rw [q11] at f0
   clear HF HRed HEta HLs h hks HP HP2 q11
   go_enter Tryz.func28, Tryz.ntmps28
   go_wp2_with fail
   go_ret
   exact ⟨HE, hb0⟩
  ·have q11' : (fd.op == 11) = false := nEQ q11
   have HR2 : Hid (normalC (pC (.mk 12 n s k (.slice na ns.length nc) ns (.slice (some ⟨b, off, none⟩) [fd, gd].length c) [fd, gd])) = (!etaC (pC (.mk 12 n s k (.slice na ns.length nc) ns (.slice (some ⟨b, off, none⟩) 2 c) [fd, gd])) && ([fd, gd].map pC).all normalC)) := by
    show _ = _
    rw [HRed.out]
    have : ((([fd, gd].map pC).getD 0 default).op == 11) = false := by show ((pC fd).op == 11) = false; rw [ConD.op_pure]; exact q11'
    rw [this]; rfl
   clear HRed h hks HP HP2 q11
   obtain ⟨be, hbe⟩ : ∃ q9, etaC (pC (.mk 12 n s k (.slice na ns.length nc) ns (.slice (some ⟨b, off, none⟩) 2 c) [fd, gd])) = q9 := ⟨_, rfl⟩
   rw [hbe] at HEta HR2
   obtain ⟨bl, hbl⟩ : ∃ q9, ([fd, gd].map pC).all normalC = q9 := ⟨_, rfl⟩
   rw [hbl] at HLs HR2
   clear hbe hbl
   go_enter Tryz.func28, Tryz.ntmps28
   go_wp2_with fail
   refine (HEta.out _ hb0).mono ?_
   rintro e w2 ⟨rfl, hb2⟩
   have hbw2 := hb0.trans (hb2.mono hb0.size)
   have g2 := (hb2.block _ hlt).trans gC
   obtain ⟨d0, d1, d2, d3, d4, d5⟩ := cnQ g2
   clear HEta
   cases be
   ·go_wp2_with fail
    refine (HLs.out _ hbw2).mono ?_
    rintro e w3 ⟨rfl, hb3⟩
    have hbw3 := hbw2.trans (hb3.mono hbw2.size)
    have HE := hJQ (HF.out bl (by rw [HR2.out]; rfl))
    clear HF HR2 HLs
    go_wp2_with fail
    go_ret
    first | exact ⟨HE.out, hbw3⟩ | exact ⟨by rw [← HE.out]; simp, hbw3⟩
   ·have HE := HF.out false (by rw [HR2.out]; rfl)
    clear HF HR2 HLs
    go_wp2_with fail
    go_ret
    exact ⟨HE, hbw2⟩
 ·have q12' : (op == 12) = false := nEQ q12
  have HR2 : Hid (normalC (pC (.mk op n s k (.slice na ns.length nc) ns (.slice a l.length c) l)) = (!etaC (pC (.mk op n s k (.slice na ns.length nc) ns (.slice a l.length c) l)) && (l.map pC).all normalC)) := by
   show _ = _
   rw [HRed.out, q12']; rfl
  clear HRed h hks HP HP2 q12
  obtain ⟨be, hbe⟩ : ∃ q9, etaC (pC (.mk op n s k (.slice na ns.length nc) ns (.slice a l.length c) l)) = q9 := ⟨_, rfl⟩
  rw [hbe] at HEta HR2
  obtain ⟨bl, hbl⟩ : ∃ q9, (l.map pC).all normalC = q9 := ⟨_, rfl⟩
  rw [hbl] at HLs HR2
  clear hbe hbl
  go_enter Tryz.func28, Tryz.ntmps28
  go_wp2_with fail
  refine (HEta.out _ hb0).mono ?_
  rintro e w2 ⟨rfl, hb2⟩
  have hbw2 := hb0.trans (hb2.mono hb0.size)
  have g2 := (hb2.block _ hlt).trans gC
  obtain ⟨d0, d1, d2, d3, d4, d5⟩ := cnQ g2
  clear HEta
  cases be
  ·go_wp2_with fail
   refine (HLs.out _ hbw2).mono ?_
   rintro e w3 ⟨rfl, hb3⟩
   have hbw3 := hbw2.trans (hb3.mono hbw2.size)
   have HE := hJQ (HF.out bl (by rw [HR2.out]; rfl))
   clear HF HR2 HLs
   go_wp2_with fail
   go_ret
   first | exact ⟨HE.out, hbw3⟩ | exact ⟨by rw [← HE.out]; simp, hbw3⟩
  ·have HE := HF.out false (by rw [HR2.out]; rfl)
   clear HF HR2 HLs
   go_wp2_with fail
   go_ret
   exact ⟨HE, hbw2⟩
theorem all1_any (P : Nat->Prop) (x : ConD) (w : World) (hE : EnvN w) (h : IsCon P w x) (hb : bndC (pC x)) (hsz : sizeC (pC x)<=1000000000) :
 Calls Tryz.prog 108 (#[conV x] ++ #[]) w fun e w' => e = .returned (.bool (!valC (pC x)))/\Below w.heap.size w w' := by
 obtain ⟨op, n, s, k, nv, ns, lv, l⟩ := x
 obtain ⟨ka, kc, kn, na, nc, a, c, rfl, _, rfl, _, hks, hcv, hll, hnn, hb0, gC, hsz0, HP, HC0, c0, c1, c2, c3, c4, c5⟩ := open_box h
 rw [hcv]
 clear hcv
 have HC := hJQ (valid_any P _ _ (hE.below hb0) HC0.out hb hsz)
 rw [cVQ hks] at HC
 clear h hks HP HC0 hb hsz0 gC hE
 generalize pC (.mk op n s k (.slice na ns.length nc) ns (.slice a l.length c) l) = x at *
 go_enter Tryz.func108, Tryz.ntmps108
 go_wp2_with fail
 refine HC.out.mono ?_
 rintro e w2 ⟨rfl, hb2⟩
 have hbz := hb0.trans (hb2.mono hb0.size)
 clear HC
 go_wp2_with fail
 go_ret
 exact ⟨rfl, hbz⟩
theorem all_yes (P : Nat->Prop) (ga : Option Addr) (gc : Nat) (gl : List ConD) (w : World) (hE : EnvN w) (h : RowP P w (.slice ga gl.length gc) gl.length (cCQ gl)) (hm : gl.length<=9223372036854775807) (ha : ∀ y ∈ gl, IsCon P w y) (hV : ∀ y ∈ gl.map pC, valC y = true/\bndC y) :
 Calls Tryz.prog 65 #[.slice ga gl.length gc] w fun e w' => e = .returned (.bool true)/\Below w.heap.size w w' := by
 have H : Calls Tryz.prog 22 #[.slice ga gl.length gc, .func (.func 108) #[] #[]] w fun e w' => e = .returned (.bool false)/\Below w.heap.size w w' := by
  refine (containsC_any 108 #[] (enters_of Tryz.func108 (by kernel_rfl) rfl) P _ gl (fun j V => Below w.heap.size w V) (fun j V => False) w (Below.refl _ _) (fun j V hI => Kept.of_below hI) (fun j V hj hI => ?_) h hm ha).mono ?_
  ·have hmem := mem_getD gl j hj
   have hv := hV _ (List.mem_map_of_mem (f := pC) hmem)
   refine (all1_any P (gl.getD j default) V (hE.below hI) (iBQ (ha _ hmem) hI) hv.2 (by have := (val_iff.1 hv.1).1; omega)).mono fun e V' ⟨he, hb⟩ => ⟨_, he, fun hb1 => ?_, fun hb1 => hI.trans (hb.mono hI.size)⟩
   rw [hv.1] at hb1; cases hb1
  ·rintro e w' ⟨b, rfl, hy, hn⟩
   cases b
   ·exact ⟨rfl, hn rfl⟩
   ·obtain ⟨j, hj, hf⟩ := hy rfl; exact hf.elim
 have H := hJQ H
 clear h ha hV hE
 go_enter Tryz.func65, Tryz.ntmps65
 go_wp2_with fail
 refine H.out.mono ?_
 rintro e w2 ⟨rfl, hb2⟩
 clear H
 go_wp2_with fail
 go_ret
 exact ⟨rfl, hb2⟩
theorem subst_any (P : Nat->Prop) (x : ConD) (ga : Option Addr) (gc : Nat) (gl : List ConD) (w : World) (hE : EnvN w) (h : IsCon P w x) (hv : valC (pC x) = true) (hb : bndC (pC x)) (hR : RowP P w (.slice ga gl.length gc) gl.length (cCQ gl)) (hA : ∀ y ∈ gl, IsCon P w y) (hV : ∀ y ∈ gl.map pC, valC y = true/\bndC y) (hlen : gl.length<=1000) (hbT : bndC (sC9 (gl.map pC) 0 (pC x))) :
 Calls Tryz.prog 36 #[conV x, .slice ga gl.length gc] w (ReplOk (sC9 (gl.map pC) 0 (pC x)) w) := by
 obtain ⟨hv1, hv2, hv3⟩ := val_iff.1 hv
 have hVf : ∀ y ∈ gl.map pC, frmC y = true/\sizeC y<=20000 := fun y hy => ⟨(val_iff.1 (hV y hy).1).2.2, (val_iff.1 (hV y hy).1).1⟩
 have hTe : rebC (leafT (gl.map pC)) 0 (pC x) = sC9 (gl.map pC) 0 (pC x) := reb_subst _ (fun y hy => (hVf y hy).1) _ 0 hv3
 obtain ⟨op, n, s, k, nv, ns, lv, l⟩ := x
 obtain ⟨ka, kc, kn, na, nc, a, c, rfl, _, rfl, _, hks, hcv, hll, hnn, hb0, gC, hsz0, HP, HC0, c0, c1, c2, c3, c4, c5⟩ := open_box h
 rw [hcv]
 clear hcv
 have hPW := cVQ (op := op) (n := n) (s := s) (nv := .slice na ns.length nc) (lv := .slice a l.length c) (ns := ns) (l := l) hks
 have hg1 := gAQ (w.alloc (.cells #[.int .i64 op, .int .i64 n, .string s, .slice ka kn kc, .slice na ns.length nc, .slice a l.length c] 28)) (.cells #[.slice ga gl.length gc] 26)
 have hg2 := gAQ ((w.alloc (.cells #[.int .i64 op, .int .i64 n, .string s, .slice ka kn kc, .slice na ns.length nc, .slice a l.length c] 28)).alloc (.cells #[.slice ga gl.length gc] 26)) (.cells #[.int .i64 0, .int .i64 0, .string ⟨#[]⟩, .slice none 0 0, .slice none 0 0, .slice none 0 0] 28)
 have s2 : ((w.alloc (.cells #[.int .i64 op, .int .i64 n, .string s, .slice ka kn kc, .slice na ns.length nc, .slice a l.length c] 28)).alloc (.cells #[.slice ga gl.length gc] 26)).heap.size = w.heap.size + 1 + 1 := by simp
 have kL0 : ((w.alloc (.cells #[.int .i64 op, .int .i64 n, .string s, .slice ka kn kc, .slice na ns.length nc, .slice a l.length c] 28)).alloc (.cells #[.slice ga gl.length gc] 26)).heap[w.heap.size + 1]? = _ := (congrArg _ hsz0.symm).trans (nHQ (w.alloc (.cells #[.int .i64 op, .int .i64 n, .string s, .slice ka kn kc, .slice na ns.length nc, .slice a l.length c] 28)) (.cells #[.slice ga gl.length gc] 26))
 have kL := (hg2.block (w.heap.size + 1) (by omega) (by nofun)).trans kL0
 have kB := (hg2.block w.heap.size (by omega) (by nofun)).trans ((hg1.block w.heap.size (by omega) (by nofun)).trans gC)
 have kR : (((w.alloc (.cells #[.int .i64 op, .int .i64 n, .string s, .slice ka kn kc, .slice na ns.length nc, .slice a l.length c] 28)).alloc (.cells #[.slice ga gl.length gc] 26)).alloc (.cells #[.int .i64 0, .int .i64 0, .string ⟨#[]⟩, .slice none 0 0, .slice none 0 0, .slice none 0 0] 28)).heap[w.heap.size + 1 + 1]? = _ := (congrArg _ s2.symm).trans (nHQ ((w.alloc (.cells #[.int .i64 op, .int .i64 n, .string s, .slice ka kn kc, .slice na ns.length nc, .slice a l.length c] 28)).alloc (.cells #[.slice ga gl.length gc] 26)) (.cells #[.int .i64 0, .int .i64 0, .string ⟨#[]⟩, .slice none 0 0, .slice none 0 0, .slice none 0 0] 28))
 have hgW := gBQ (gBQ (gAQ w (.cells #[.int .i64 op, .int .i64 n, .string s, .slice ka kn kc, .slice na ns.length nc, .slice a l.length c] 28)) hg1) hg2
 have hszW : (((w.alloc (.cells #[.int .i64 op, .int .i64 n, .string s, .slice ka kn kc, .slice na ns.length nc, .slice a l.length c] 28)).alloc (.cells #[.slice ga gl.length gc] 26)).alloc (.cells #[.int .i64 0, .int .i64 0, .string ⟨#[]⟩, .slice none 0 0, .slice none 0 0, .slice none 0 0] 28)).heap.size = w.heap.size + 1 + 1 + 1 := by simp
 have hbW := gUQ (B := w.heap.size) hgW (nLQ _) (by nofun)
 have hcW := h.grown hgW (by nofun)
 have HRW := hJQ (hR.grown hgW (by nofun))
 have HAW : Hid (∀ y ∈ gl, IsCon P (((w.alloc (.cells #[.int .i64 op, .int .i64 n, .string s, .slice ka kn kc, .slice na ns.length nc, .slice a l.length c] 28)).alloc (.cells #[.slice ga gl.length gc] 26)).alloc (.cells #[.int .i64 0, .int .i64 0, .string ⟨#[]⟩, .slice none 0 0, .slice none 0 0, .slice none 0 0] 28)) y) := fun y hy => (hA y hy).grown hgW (by nofun)
 have HVd := valid_any P _ _ (hE.below hbW) hcW hb (by omega)
 rw [hPW, hv] at HVd
 have HVd := hJQ HVd
 have HCW := hJQ hcW
 have HV := hJQ hV
 have HVF := hJQ hVf
 have HE := hJQ (hE.below hbW)
 have HPW := hJQ hPW
 have HTE := hJQ hTe
 have hgl9 : gl.length<=9223372036854775807 := by omega
 have hvv := hJQ hv
 rw [← hTe] at hbT
 have HBT := hJQ hbT
 clear h hks hPW hg1 hg2 s2 kL0 gC HP HC0 hb0 hsz0 c0 c1 c2 c3 c4 c5 hcW hR hA hV hVf hE hTe hv hbT hb
 generalize hT : sC9 (gl.map pC) 0 (pC (.mk op n s k (.slice na ns.length nc) ns (.slice a l.length c) l)) = T at *
 clear hT
 go_enter Tryz.func36, Tryz.ntmps36
 go_upto_region 1 with fail
 generalize ((w.alloc (.cells #[.int .i64 op, .int .i64 n, .string s, .slice ka kn kc, .slice na ns.length nc, .slice a l.length c] 28)).alloc (.cells #[.slice ga gl.length gc] 26)).alloc (.cells #[.int .i64 0, .int .i64 0, .string ⟨#[]⟩, .slice none 0 0, .slice none 0 0, .slice none 0 0] 28) = W at *
 obtain ⟨c0, c1, c2, c3, c4, c5⟩ := cnQ kB
 go_wp2_with fail
 refine HVd.out.mono ?_
 rintro e w2 ⟨rfl, hb2⟩
 have hbw2 := hbW.trans (hb2.mono hbW.size)
 have kB2 := (hb2.block _ (hLQ kB)).trans kB
 have kL2 := (hb2.block _ (hLQ kL)).trans kL
 have kR2 := (hb2.block _ (hLQ kR)).trans kR
 have cL2 := cell_int kL2
 have HAl := hJQ (all_yes P ga gc gl w2 (HE.out.below hb2) (rowP_below HRW.out hb2) hgl9 (fun y hy => iBQ (HAW.out y hy) hb2) HV.out)
 clear c0 c1 c2 c3 c4 c5 kB kL kR HVd
 go_wp2_with fail
 refine HAl.out.mono ?_
 rintro e w3 ⟨rfl, hb3⟩
 have hb23 := hb2.trans (hb3.mono hb2.size)
 have hbw3 := hbw2.trans (hb3.mono hbw2.size)
 have kB3 := (hb3.block _ (hLQ kB2)).trans kB2
 have kL3 := (hb3.block _ (hLQ kL2)).trans kL2
 have kR3 := (hb3.block _ (hLQ kR2)).trans kR2
 have hs3 := hbw3.size
 have hl3 := hLQ kR3
 have cL3 := cell_int kL3
 obtain ⟨d0, d1, d2, d3, d4, d5⟩ := cnQ kB3
 have hx3 := iBQ HCW.out hb23
 have hr3 := rowP_below HRW.out hb23
 have ha3 : ∀ y ∈ gl, IsCon P w3 y := fun y hy => iBQ (HAW.out y hy) hb23
 have HC := replaced_any P _ 67 #[.pointer (some ⟨w.heap.size + 1, 0, none⟩)] (enters_of Tryz.func67 (by kernel_rfl) rfl) (leafT (gl.map pC)) w3 (HE.out.below hb23) hx3 hvv.out HBT.out (fun mb V hmb hgV => fun W' y d hg hy hf hop hd0 hd1 => by
  have hkl : ∀ q, some mb = some q->¬ (P q/\q < w3.heap.size) := fun q hq hp => by have e2 : mb = q := oJQ hq; have := hp.2; omega
  have hgg := gBQ (fNQ hgV (some mb)) hg
  obtain ⟨dn, rfl⟩ : ∃ dn : Nat, d = dn := ⟨d.toNat, by omega⟩
  refine ⟨leafT_size _ HVF.out _ _, ?_⟩
  exact subst1_any _ y (w.heap.size + 1) ga gc gl W' dn hy hf hop ((hgg.block _ (hLQ kL3) (fun e => by have e2 : w.heap.size + 1 = mb := oJQ e; omega)).trans kL3) (hr3.lt.grown hgg hkl) (fun z hz => (ha3 z hz).lt.grown hgg hkl) (fun z hz => (HV.out z hz).1) hlen (by omega))
 rw [HPW.out, HTE.out] at HC
 have HC := hJQ HC
 clear HAl kB2 kL2 kR2 cL2 hb3 hb2 hb23 hx3 hr3 ha3 hbw2 HRW HAW
 go_wp2_with fail
 refine HC.out.mono ?_
 rintro e w4 ⟨dd, er, rfl, hdd, hb4, hyes, hno⟩
 obtain ⟨xop, xn, xs, xk, xns, xl, xka, xkn, xkc, xna, xnc, xla, xlc, rfl, hxk, _⟩ := cSQ hdd
 have hxv := cVQ (op := xop) (n := xn) (s := xs) (nv := .slice xna xns.length xnc) (lv := .slice xla xl.length xlc) (ns := xns) (l := xl) hxk
 rw [hxv]
 have kR4 := (hb4.block _ hl3).trans kR3
 have hs4 := hb4.size
 have hrow := gRQ w4 (w.heap.size + 1 + 1) #[.int .i64 xop, .int .i64 xn, .string xs, .slice xka xkn xkc, .slice xna xns.length xnc, .slice xla xl.length xlc]
 have HRF := hJQ (setRow_heap w4 (w.heap.size + 1 + 1) _ #[.int .i64 xop, .int .i64 xn, .string xs, .slice xka xkn xkc, .slice xna xns.length xnc, .slice xla xl.length xlc] _ _ kR4)
 have HBF := hJQ ((hbw3.trans (hb4.mono hbw3.size)).trans (gUQ (B := w.heap.size) hrow (by omega) (fun q hq => by have e2 : w.heap.size + 1 + 1 = q := oJQ hq; omega)))
 have HDF := hJQ ((hdd.grown hrow (fun q hq hp => by have e2 : w.heap.size + 1 + 1 = q := oJQ hq; have hp : w3.heap.size<=q := hp; omega)).mono (Q := fun b => w.heap.size<=b) (fun b hb _ => by have hb : w3.heap.size<=b := hb; show w.heap.size<=b; omega))
 have HXV := hJQ hxv
 have HY := hJQ hyes
 have HN := hJQ hno
 clear hrow hdd hxv hyes hno HC hb4
 go_wp2_with (refine wpList_store_row rfl 28 _ _ rfl (w.heap.size + 1 + 1) _ rfl rfl 28 _ kR4 cIQ rfl (all_one _ rfl) ?_)
 refine bodyPost_ret (v := .tuple #[.agg #[.int .i64 xop, .int .i64 xn, .string xs, .slice xka xkn xkc, .slice xna xns.length xnc, .slice xla xl.length xlc], .int .i64 er]) ?_ rfl ⟨_, er, by rw [HXV.out], HDF.out, HBF.out, HY.out, HN.out⟩
 rw [results_cell_tmp (p := 4) (u := 5) (ty := 28) rfl]
 simp [asAddr, run_loadVar_row _ _ _ _ _ _ _ HRF.out Tryz.underlying28 rfl cIQ, Result.andThen]
end Go.Proofs.YtkiffgdinmpljaaGreatDoor
