/- slices.Clone at names; what rebuild makes, plain. Expanded by mac.py. (*maker).rebuild. Printed by gen_reb.py, expanded by mac.py. -/
import Derived.Test.YtkiffgdinmpljaaGreatDoorF6
import Derived.Test.YtkiffgdinmpljaaGreatDoorF10
set_option linter.unusedVariables false
set_option linter.unusedSimpArgs false
namespace Go.Proofs.YtkiffgdinmpljaaGreatDoor
open Go Go.RowKit
set_option maxHeartbeats 8000000
set_option maxRecDepth 100000
def RowOut (P : Nat->Prop) (l : List ByteArray) (e : Ending) (w' : World) : Prop := ∃ (a : Option Addr) (c : Nat), e = .returned (.slice a l.length c)/\RowP P w' (.slice a l.length c) l.length (strCells l)
theorem clone_any (P : Nat->Prop) (v : Value) (l : List ByteArray) (w : World) (h : RowP P w v l.length (strCells l)) (hl : l.length<=100000) :
 Calls Tryz.prog 56 #[v] w fun e w' => RowOut (fun b => w.heap.size<=b) l e w'/\Below w.heap.size w w' := by
 obtain ⟨a, c, rfl, hlc, hcell⟩ := h
 have own_row : ∀ (w' : World) (v' : Value), w'.ownsRow w.heap.size 9 1 v' l.length (strCells l)->RowOut (fun b => w.heap.size<=b) l (.returned v') w' := fun w' v' ho => by
  have hr := rowP_owns (P := fun b => w.heap.size<=b) ho (fun b hb => hb)
  obtain ⟨a', c', rfl, hc'⟩ := rSQ hr
  exact ⟨a', c', rfl, hr⟩
 cases a with
 | none =>
   have hl0 : l.length = 0 := by
    rcases Nat.eq_zero_or_pos l.length with h | h
    ·exact h
    ·obtain ⟨b, off, hb, _⟩ := hcell h; cases hb
   obtain rfl : l = [] := List.length_eq_zero_iff.1 hl0
   refine (Tryz.slices_Clone_string_nil 0 c w).mono ?_
   rintro e w' ⟨rfl, rfl⟩
   exact ⟨⟨none, 0, rfl, RowP.nil _ _⟩, Below.refl _ _⟩
 | some a =>
   by_cases hl0 : l.length = 0
   ·obtain rfl : l = [] := List.length_eq_zero_iff.1 hl0
    refine (Tryz.slices_Clone_string_zero a c w).mono ?_
    rintro e w' ⟨v', rfl, ho, _, hb⟩
    exact ⟨own_row w' v' ho, hb⟩
   ·obtain ⟨b, off, hb, _, hlt, hc⟩ := hcell (by omega)
    obtain rfl := oJQ hb
    refine (Tryz.slices_Clone_string b off l.length c l w (nLQ _) (by omega) (fun j hj => ?_)).mono ?_
    ·rw [hc j (by simpa [strCells] using hj)]
     simp [strCells, List.getD, hj]
    ·rintro e w' ⟨v', rfl, ho, _, hb⟩
     rw [List.take_length] at ho
     exact ⟨own_row w' v' ho, hb⟩
mutual
def rebC (f : Cn->Int->Cn) (d : Int) : Cn->Cn
 | .mk op n s k ns l => if op = 1 ∨ op = 2 then f (.mk op n s k ns l) d else .mk op n s k ns (rebCL f (if binderB op = true then d + 1 else d) l)
def rebCL (f : Cn->Int->Cn) (d : Int) : List Cn->List Cn
 | [] => []
 | x :: r => rebC f d x :: rebCL f d r
end
theorem rebCL_map (f : Cn->Int->Cn) (d : Int) : ∀ l : List Cn, rebCL f d l = l.map (rebC f d)
 | [] => by rw [rebCL]; rfl
 | x :: r => by rw [rebCL, rebCL_map f d r, List.map_cons]
theorem rebC_leaf (f : Cn->Int->Cn) (d op n : Int) (s : ByteArray) (k : Kd) (ns : List ByteArray) (l : List Cn) (h : op = 1 ∨ op = 2) : rebC f d (.mk op n s k ns l) = f (.mk op n s k ns l) d := by rw [rebC, if_pos h]
theorem rebC_node (f : Cn->Int->Cn) (d op n : Int) (s : ByteArray) (k : Kd) (ns : List ByteArray) (l : List Cn) (h : ¬ (op = 1 ∨ op = 2)) : rebC f d (.mk op n s k ns l) = .mk op n s k ns (l.map (rebC f (if binderB op = true then d + 1 else d))) := by rw [rebC, if_neg h, rebCL_map]
theorem fSQ {op n : Int} {s : ByteArray} {k : Kd} {ns : List ByteArray} {l : List Cn} (h : frmC (.mk op n s k ns l) = true) : sizeK k<=100000/\ns.length<=100000/\((op = 1 ∨ op = 3)->0<=n/\n<=20000)/\(∀ x ∈ l, frmC x = true)/\(op = 1 ∨ op = 2->l = []) := by
 obtain ⟨h1, h2⟩ := (formC_iff cstB labsB ..).1 h
 obtain ⟨a1, a2, a3, a4, a5⟩ := node_parts h1
 refine ⟨?_, ?_, (node_op cstB labsB h1).2, h2, fun ho => ?_⟩
 ·split at a4
  ·unfold validK at a4
   simp only [Bool.and_eq_true, decide_eq_true_eq] at a4
   omega
  ·obtain ⟨l⟩ := k
   have : l = [] := List.isEmpty_iff.1 a4
   subst this
   rw [sizeK_mk, sizeKL_nil]; omega
 ·split at a5
  ·unfold labsB at a5
   simp only [Bool.and_eq_true, decide_eq_true_eq] at a5
   omega
  ·rw [List.isEmpty_iff] at a5; subst a5; simp
 ·have : partsC op ns.length = 0 := by
   unfold partsC
   rcases ho with rfl | rfl <;> simp [labelledB, binderB]
  rw [this] at a1
  exact List.length_eq_zero_iff.1 (by omega)
theorem wrap_ok (z : Int) (h0 : -9223372036854775808<=z) (h1 : z<=9223372036854775807) : IntKind.i64.wrap z = z := by rw [IntKind.wrap_i64]; omega
def LeafAt (P : Nat->Prop) (w0 : World) (mb g : Nat) (lb : Array Value) (f : Cn->Int->Cn) : Prop :=
 ∀ (W : World) (x : ConD) (d : Int), w0.grownBy W (some mb)->IsCon P W x->frmC (pC x) = true->(x.op = 1 ∨ x.op = 2)->0<=d->d<=1000->sizeC (f (pC x) d)<=20000/\Calls Tryz.prog g (#[conV x, .int .i64 d] ++ lb) W fun e w' => ConOut (fun b => W.heap.size<=b) (f (pC x) d) e w'/\Below W.heap.size W w'
def MkAt (V : World) (mb g : Nat) (lb : Array Value) (left : Int) : Prop := V.heap[mb]? = some (.cells #[.func (.func g) #[] lb, .int .i64 left] 88 (0, 0))
theorem MkAt.cells {V : World} {mb g : Nat} {lb : Array Value} {left : Int} (h : MkAt V mb g lb left) : V.cell? ⟨mb, 0, none⟩ = some (.func (.func g) #[] lb)/\V.cell? ⟨mb, 1, none⟩ = some (.int .i64 left)/\V.frozen? ⟨mb, 1, none⟩ = false := by
 unfold MkAt at h
 refine ⟨by simp [World.cell?, h], by simp [World.cell?, h], Lib.frozen_of_heap h 1⟩
theorem MkAt.grown {V V' : World} {mb g : Nat} {lb : Array Value} {left : Int} {r : Option Nat} (h : MkAt V mb g lb left) (hg : V.grownBy V' r) (hr : r ≠ some mb) : MkAt V' mb g lb left := (hg.block _ (hLQ h) (fun e => hr e.symm)).trans h
theorem MkAt.set {V : World} {mb g : Nat} {lb : Array Value} {left : Int} (h : MkAt V mb g lb left) (l' : Int) : MkAt (V.setCell ⟨mb, 1, none⟩ (.int .i64 l')) mb g lb l' := heap_set_same h _
def RebOk (mb g : Nat) (lb : Array Value) (T : Cn) (left : Int) (w : World) (e : Ending) (w' : World) : Prop :=
 ∃ (dd : ConD) (l' : Int), e = .returned (conV dd)/\IsCon (fun b => w.heap.size<=b) w' dd/\MkAt w' mb g lb l'/\w.grownBy w' (some mb)/\-30000<=l'/\l'<=20000/\((sizeC T : Int)<=left->pC dd = T/\l' = left - sizeC T)/\(¬ (sizeC T : Int)<=left->l' < 0)
theorem fNQ {a b : World} (h : a.grownBy b none) (r : Option Nat) : a.grownBy b r := ⟨h.os, h.tape, h.output, h.size, fun q hq _ => h.block q hq (by nofun)⟩
theorem gOQ {w a b : World} {r : Option Nat} {R : Nat} (h : w.grownBy a r) (k : a.grownBy b (some R)) (hR : w.heap.size<=R) : w.grownBy b r :=
 ⟨k.os.trans h.os, k.tape.trans h.tape, k.output.trans h.output, Nat.le_trans h.size k.size, fun q hq hr => (k.block q (Nat.lt_of_lt_of_le hq h.size) (fun e => by have := oJQ e; omega)).trans (h.block q hq hr)⟩
theorem grown_more {w a b : World} {r r' : Option Nat} (h : w.grownBy a r) (k : a.grownBy b r') (hR : ∀ q, r' = some q->w.heap.size<=q) : w.grownBy b r := by
 cases r' with
 | none => exact gBQ h (fNQ k r)
 | some R => exact gOQ h k (hR R rfl)
theorem zero_con (P : Nat->Prop) (V : World) : IsCon P V (.mk 0 0 ⟨#[]⟩ (.mk (.slice none 0 0) []) (.slice none 0 0) [] (.slice none 0 0) []) := .mk (kind_nil _ _) (RowP.nil _ _) (Nat.zero_le maxLen) (RowP.nil _ _) (Nat.zero_le maxLen) (fun y hy => by cases hy)
theorem conCells_one (y : ConD) : cCQ [y] = cEQ y := by simp [cCQ]
theorem reb_none (P : Nat->Prop) (mb g : Nat) (lb : Array Value) (T : Cn) (op n : Int) (s : ByteArray) (k : KindD) (nv : Value) (ns : List ByteArray) (lv : Value) (l : List ConD) (w : World) (left d : Int) (h : IsCon P w (.mk op n s k nv ns lv l)) (hmk : MkAt w mb g lb left) (hl : left<=0) :
 Calls Tryz.prog 71 #[.pointer (some ⟨mb, 0, none⟩), conV (.mk op n s k nv ns lv l), .int .i64 d] w (RebOk mb g lb T left w) := by
 obtain ⟨ka, kc, kn, na, nc, a, c, rfl, _, rfl, _, hks, hcv, hll, hnn, hb0, gC, hsz0, HP, HC0, c0, c1, c2, c3, c4, c5⟩ := open_box h
 rw [hcv]
 clear hcv
 obtain ⟨hg1, kR, kB, hszW⟩ := fo_box gC
 have hgW := gBQ (gAQ w (.cells #[.int .i64 op, .int .i64 n, .string s, .slice ka kn kc, .slice na ns.length nc, .slice a l.length c] 28)) hg1
 have kM := hmk.grown hgW (by nofun)
 have hlm := hLQ hmk
 have hcW := h.grown hgW (by nofun)
 clear c0 c1 c2 c3 c4 c5 hb0 gC HP HC0 hsz0 hg1
 clear hks
 go_enter Tryz.func71, Tryz.ntmps71
 go_upto_region 1 with fail
 generalize (w.alloc (.cells #[.int .i64 op, .int .i64 n, .string s, .slice ka kn kc, .slice na ns.length nc, .slice a l.length c] 28)).alloc (.cells #[.int .i64 0, .int .i64 0, .string ⟨#[]⟩, .slice none 0 0, .slice none 0 0, .slice none 0 0] 28) = W at *
 obtain ⟨m0, m1, fm1⟩ := kM.cells
 have kM2 := kM.set (-1)
 have hS := gSQ W mb 1 (.int .i64 (-1))
 have kR2 := (hS.block (w.heap.size + 1) (by omega) (fun e => by have e2 : w.heap.size + 1 = mb := oJQ e; omega)).trans kR
 have hrow := gRQ (W.setCell ⟨mb, 1, none⟩ (.int .i64 (-1))) (w.heap.size + 1) #[.int .i64 0, .int .i64 0, .string ⟨#[]⟩, .slice none 0 0, .slice none 0 0, .slice none 0 0]
 have HR3 := hJQ (setRow_heap (W.setCell ⟨mb, 1, none⟩ (.int .i64 (-1))) (w.heap.size + 1) _ #[.int .i64 0, .int .i64 0, .string ⟨#[]⟩, .slice none 0 0, .slice none 0 0, .slice none 0 0] _ _ kR2)
 have HM3 := hJQ (kM2.grown hrow (by intro e; have e2 : w.heap.size + 1 = mb := oJQ e; omega))
 have HG3 := hJQ (gOQ (gBQ (fNQ hgW (some mb)) hS) hrow (by omega))
 have hTs := sizeC_pos T
 clear hrow hS kM2 hcW hmk h
 go_wp2_with (refine wpList_store_row rfl 28 _ _ rfl (w.heap.size + 1) _ rfl rfl 28 _ kR2 cIQ rfl (all_one _ rfl) ?_)
 refine bodyPost_ret (results_cell_row rfl _ _ (w.heap.size + 1) 28 #[.int .i64 0, .int .i64 0, .string ⟨#[]⟩, .slice none 0 0, .slice none 0 0, .slice none 0 0] (0, 0) _ rfl HR3.out Tryz.underlying28 rfl cIQ) rfl ?_
 exact ⟨_, -1, rfl, zero_con _ _, HM3.out, HG3.out, by omega, by omega, fun h => by omega, fun _ => by omega⟩
theorem reb_leaf (P : Nat->Prop) (mb g : Nat) (lb : Array Value) (eg : ∀ args w, (callFunc g args).run Tryz.prog w = .ok (.enter g args) w) (f : Cn->Int->Cn) (w0 : World) (hL : LeafAt P w0 mb g lb f) (op n : Int) (s : ByteArray) (k : KindD) (nv : Value) (ns : List ByteArray) (lv : Value) (l : List ConD) (w : World) (left d : Int)
 (HY : w0.grownBy w (some mb)/\IsCon P w (.mk op n s k nv ns lv l)/\frmC (pC (.mk op n s k nv ns lv l)) = true/\sizeC (pC (.mk op n s k nv ns lv l))<=20000/\MkAt w mb g lb left/\-30000<=left/\left<=20000/\0<=d/\d + dCQ (pC (.mk op n s k nv ns lv l))<=1000) (hl : 0 < left) (hop : op = 1 ∨ op = 2) :
 Calls Tryz.prog 71 #[.pointer (some ⟨mb, 0, none⟩), conV (.mk op n s k nv ns lv l), .int .i64 d] w (RebOk mb g lb (f (pC (.mk op n s k nv ns lv l)) d) left w) := by
 obtain ⟨hw0, h, hf, hsz, hmk, hl0, hl1, hd0, hd1⟩ := HY
 obtain ⟨ka, kc, kn, na, nc, a, c, rfl, _, rfl, _, hks, hcv, hll, hnn, hb0, gC, hsz0, HP, HC0, c0, c1, c2, c3, c4, c5⟩ := open_box h
 rw [hcv]
 clear hcv
 obtain ⟨hg1, kR, kB, hszW⟩ := fo_box gC
 have hgW := gBQ (gAQ w (.cells #[.int .i64 op, .int .i64 n, .string s, .slice ka kn kc, .slice na ns.length nc, .slice a l.length c] 28)) hg1
 have kM := hmk.grown hgW (by nofun)
 have hlm := hLQ hmk
 have hcW := h.grown hgW (by nofun)
 clear c0 c1 c2 c3 c4 c5 hb0 gC HP HC0 hsz0 hg1
 have hdp := depthC_pos (pC (.mk op n s k (.slice na ns.length nc) ns (.slice a l.length c) l))
 have HL : Hid (sizeC (f (pC (.mk op n s k (.slice na ns.length nc) ns (.slice a l.length c) l)) d)<=20000/\∀ W', ((w.alloc (.cells #[.int .i64 op, .int .i64 n, .string s, .slice ka kn kc, .slice na ns.length nc, .slice a l.length c] 28)).alloc (.cells #[.int .i64 0, .int .i64 0, .string ⟨#[]⟩, .slice none 0 0, .slice none 0 0, .slice none 0 0] 28)).grownBy W' none->Calls Tryz.prog g (#[(.agg #[.int .i64 op, .int .i64 n, .string s, .slice ka kn kc, .slice na ns.length nc, .slice a l.length c]), .int .i64 d] ++ lb) W' fun e w' => ConOut (fun b => W'.heap.size<=b) (f (pC (.mk op n s k (.slice na ns.length nc) ns (.slice a l.length c) l)) d) e w'/\Below W'.heap.size W' w') := by
  refine ⟨(hL w _ d hw0 h hf hop hd0 (by omega)).1, fun W' hW' => ?_⟩
  have := (hL W' _ d (gBQ hw0 (fNQ (gBQ hgW hW') _)) (hcW.grown hW' (by nofun)) hf hop hd0 (by omega)).2
  rw [cVQ hks] at this
  exact this
 have hopb : (op == 1) = true ∨ ((op == 1) = false/\(op == 2) = true) := by
  rcases hop with rfl | rfl
  ·exact .inl rfl
  ·exact .inr ⟨rfl, rfl⟩
 generalize pC (.mk op n s k (.slice na ns.length nc) ns (.slice a l.length c) l) = px at *
 generalize f px d = T at *
 clear h hks hf hsz hw0 hcW hmk hop hdp hd1
 rcases hopb with q1 | ⟨q1, q2⟩
 all_goals
  go_enter Tryz.func71, Tryz.ntmps71
  go_upto_region 1 with fail
  generalize (w.alloc (.cells #[.int .i64 op, .int .i64 n, .string s, .slice ka kn kc, .slice na ns.length nc, .slice a l.length c] 28)).alloc (.cells #[.int .i64 0, .int .i64 0, .string ⟨#[]⟩, .slice none 0 0, .slice none 0 0, .slice none 0 0] 28) = W at *
  obtain ⟨m0, m1, fm1⟩ := kM.cells
  obtain ⟨c0, c1, c2, c3, c4, c5⟩ := cnQ kB
  go_upto_region 5 with fail
  have S0 : (fun w9 => w9.cell? ⟨mb, 0, none⟩ = some (.func (.func g) #[] lb)/\w9.cell? ⟨w.heap.size, 0, none⟩ = some (.int .i64 op)/\w9.cell? ⟨w.heap.size, 1, none⟩ = some (.int .i64 n)/\w9.cell? ⟨w.heap.size, 2, none⟩ = some (.string s)/\w9.cell? ⟨w.heap.size, 3, none⟩ = some (.slice ka kn kc)/\w9.cell? ⟨w.heap.size, 4, none⟩ = some (.slice na ns.length nc)/\w9.cell? ⟨w.heap.size, 5, none⟩ = some (.slice a l.length c)) W.drew := ⟨m0, c0, c1, c2, c3, c4, c5⟩
  have hdr := gDQ W
  have S0a : (fun w9 => w9.cell? ⟨mb, 0, none⟩ = some (.func (.func g) #[] lb)/\w9.cell? ⟨w.heap.size, 0, none⟩ = some (.int .i64 op)/\w9.cell? ⟨w.heap.size, 1, none⟩ = some (.int .i64 n)/\w9.cell? ⟨w.heap.size, 2, none⟩ = some (.string s)/\w9.cell? ⟨w.heap.size, 3, none⟩ = some (.slice ka kn kc)/\w9.cell? ⟨w.heap.size, 4, none⟩ = some (.slice na ns.length nc)/\w9.cell? ⟨w.heap.size, 5, none⟩ = some (.slice a l.length c)) (W.drew.alloc (.cells #[.int .i64 0, .int .i64 0, .string ⟨#[]⟩, .slice none 0 0, .slice none 0 0, .slice none 0 0] 28)) := by
   have kB' := ((gAQ W.drew (.cells #[.int .i64 0, .int .i64 0, .string ⟨#[]⟩, .slice none 0 0, .slice none 0 0, .slice none 0 0] 28)).block w.heap.size (by simp; omega) (by nofun)).trans kB
   have kM' : MkAt (W.drew.alloc (.cells #[.int .i64 0, .int .i64 0, .string ⟨#[]⟩, .slice none 0 0, .slice none 0 0, .slice none 0 0] 28)) mb g lb left := kM.grown (gBQ hdr (gAQ W.drew (.cells #[.int .i64 0, .int .i64 0, .string ⟨#[]⟩, .slice none 0 0, .slice none 0 0, .slice none 0 0] 28))) (by nofun)
   obtain ⟨c0, c1, c2, c3, c4, c5⟩ := cnQ kB'
   exact ⟨kM'.cells.1, c0, c1, c2, c3, c4, c5⟩
  refine wp_region_held_drew (S := (fun w9 => w9.cell? ⟨mb, 0, none⟩ = some (.func (.func g) #[] lb)/\w9.cell? ⟨w.heap.size, 0, none⟩ = some (.int .i64 op)/\w9.cell? ⟨w.heap.size, 1, none⟩ = some (.int .i64 n)/\w9.cell? ⟨w.heap.size, 2, none⟩ = some (.string s)/\w9.cell? ⟨w.heap.size, 3, none⟩ = some (.slice ka kn kc)/\w9.cell? ⟨w.heap.size, 4, none⟩ = some (.slice na ns.length nc)/\w9.cell? ⟨w.heap.size, 5, none⟩ = some (.slice a l.length c))) (by kernel_rfl) S0 (fun hHeld => ?_)
  refine tks (b := ?_) (by kernel_rfl) (fun _ _ _ _ _ h => h) S0 6 [0, 1, 2, 3, 4, 5] (by kernel_rfl) ?_ ?_
  rotate_left
  ·iterate 6 (refine yc (v := ?_) rfl rfl (by rfl) (fun w9 hSw => ?_) ?_; rotate_left; (focus go_simp; try rfl); simp only [Act.put, l1Q, l2Q, l3Q])
   exact rfl
  refine wpAnyH_ready (rs := [6, 7]) (by kernel_rfl) (by simp) (AllReadyH.cons (by rfl) (fun K hK => ?r6) (AllReadyH.cons (by rfl) (fun K hK => ?r7) (AllReadyH.nil)))
  case r6 =>
   go_simp
   go_at_fn g
   refine (HL.out.2 W.drew hdr).mono ?_
   rintro e w2 ⟨ho, hb2⟩
   obtain ⟨dd, xo, xn, xs, xka, xkn, xkc, xna, xnm, xnc, xla, xlm, xlc, rfl, hdd, hpd, hdv⟩ := ho.open'
   have hg2 := gBQ hdr (gLQ hb2)
   have gB2 := (hg2.block _ (hLQ kB) (by nofun)).trans kB
   have gR2 := (hg2.block _ (hLQ kR) (by nofun)).trans kR
   have gM2 : MkAt w2 mb g lb left := kM.grown hg2 (by nofun)
   obtain ⟨d0, d1, d2, d3, d4, d5⟩ := cnQ gB2
   have S2 : (fun w9 => w9.cell? ⟨mb, 0, none⟩ = some (.func (.func g) #[] lb)/\w9.cell? ⟨w.heap.size, 0, none⟩ = some (.int .i64 op)/\w9.cell? ⟨w.heap.size, 1, none⟩ = some (.int .i64 n)/\w9.cell? ⟨w.heap.size, 2, none⟩ = some (.string s)/\w9.cell? ⟨w.heap.size, 3, none⟩ = some (.slice ka kn kc)/\w9.cell? ⟨w.heap.size, 4, none⟩ = some (.slice na ns.length nc)/\w9.cell? ⟨w.heap.size, 5, none⟩ = some (.slice a l.length c)) w2 := ⟨gM2.cells.1, d0, d1, d2, d3, d4, d5⟩
   refine hK.out _ _ S2 (fun _ => ?_)
   clear hK K
   refine rd1 7 (by kernel_rfl) (by rfl) (fun K hK => ?_)
   go_simp
   have hg3 := gAQ w2 (.cells #[.int .i64 0, .int .i64 0, .string ⟨#[]⟩, .slice none 0 0, .slice none 0 0, .slice none 0 0] 28)
   have gB3 := (hg3.block _ (hLQ gB2) (by nofun)).trans gB2
   obtain ⟨e0, e1, e2, e3, e4, e5⟩ := cnQ gB3
   have gM3 : MkAt (w2.alloc (.cells #[.int .i64 0, .int .i64 0, .string ⟨#[]⟩, .slice none 0 0, .slice none 0 0, .slice none 0 0] 28)) mb g lb left := gM2.grown hg3 (by nofun)
   have S3 : (fun w9 => w9.cell? ⟨mb, 0, none⟩ = some (.func (.func g) #[] lb)/\w9.cell? ⟨w.heap.size, 0, none⟩ = some (.int .i64 op)/\w9.cell? ⟨w.heap.size, 1, none⟩ = some (.int .i64 n)/\w9.cell? ⟨w.heap.size, 2, none⟩ = some (.string s)/\w9.cell? ⟨w.heap.size, 3, none⟩ = some (.slice ka kn kc)/\w9.cell? ⟨w.heap.size, 4, none⟩ = some (.slice na ns.length nc)/\w9.cell? ⟨w.heap.size, 5, none⟩ = some (.slice a l.length c)) (w2.alloc (.cells #[.int .i64 0, .int .i64 0, .string ⟨#[]⟩, .slice none 0 0, .slice none 0 0, .slice none 0 0] 28)) := ⟨gM3.cells.1, e0, e1, e2, e3, e4, e5⟩
   refine hK.out _ _ S3 (fun _ => ?_)
   clear hK K
   have gL3 := nHQ w2 (.cells #[.int .i64 0, .int .i64 0, .string ⟨#[]⟩, .slice none 0 0, .slice none 0 0, .slice none 0 0] 28)
   have hszw2 : W.heap.size<=w2.heap.size := hg2.size
   have hrow := gRQ (w2.alloc (.cells #[.int .i64 0, .int .i64 0, .string ⟨#[]⟩, .slice none 0 0, .slice none 0 0, .slice none 0 0] 28)) w2.heap.size #[.int .i64 xo, .int .i64 xn, .string xs, .slice xka xkn xkc, .slice xna xnm xnc, .slice xla xlm xlc]
   have gM4 : MkAt ((w2.alloc (.cells #[.int .i64 0, .int .i64 0, .string ⟨#[]⟩, .slice none 0 0, .slice none 0 0, .slice none 0 0] 28)).setRow w2.heap.size #[.int .i64 xo, .int .i64 xn, .string xs, .slice xka xkn xkc, .slice xna xnm xnc, .slice xla xlm xlc]) mb g lb left := gM3.grown hrow (by intro e; have e2 : w2.heap.size = mb := oJQ e; omega)
   have gB4 := (hrow.block _ (hLQ gB3) (fun e => by have e2 : w.heap.size = w2.heap.size := oJQ e; omega)).trans gB3
   obtain ⟨f0, f1, f2, f3, f4, f5⟩ := cnQ gB4
   have S4 : (fun w9 => w9.cell? ⟨mb, 0, none⟩ = some (.func (.func g) #[] lb)/\w9.cell? ⟨w.heap.size, 0, none⟩ = some (.int .i64 op)/\w9.cell? ⟨w.heap.size, 1, none⟩ = some (.int .i64 n)/\w9.cell? ⟨w.heap.size, 2, none⟩ = some (.string s)/\w9.cell? ⟨w.heap.size, 3, none⟩ = some (.slice ka kn kc)/\w9.cell? ⟨w.heap.size, 4, none⟩ = some (.slice na ns.length nc)/\w9.cell? ⟨w.heap.size, 5, none⟩ = some (.slice a l.length c)) ((w2.alloc (.cells #[.int .i64 0, .int .i64 0, .string ⟨#[]⟩, .slice none 0 0, .slice none 0 0, .slice none 0 0] 28)).setRow w2.heap.size #[.int .i64 xo, .int .i64 xn, .string xs, .slice xka xkn xkc, .slice xna xnm xnc, .slice xla xlm xlc]) := ⟨gM4.cells.1, f0, f1, f2, f3, f4, f5⟩
   refine held_store 8 (by kernel_rfl) (by rfl) (by rfl) (by rfl) 28 _ _ (by rfl) w2.heap.size #[.int .i64 xo, .int .i64 xn, .string xs, .slice xka xkn xkc, .slice xna xnm xnc, .slice xla xlm xlc] (by rfl) (by rfl) 28 _ gL3 cIQ rfl (all_one _ rfl) S4 ?_
   refine wpAnyH_done (by kernel_rfl) ?_ _
   have M5 := hJQ gM4
   have R5 := hJQ ((hrow.block _ (by have := hLQ gR2; simp; omega) (fun e => by have e2 : w.heap.size + 1 = w2.heap.size := oJQ e; omega)).trans ((hg3.block _ (hLQ gR2) (by nofun)).trans gR2))
   have G5 := hJQ (setRow_heap (w2.alloc (.cells #[.int .i64 0, .int .i64 0, .string ⟨#[]⟩, .slice none 0 0, .slice none 0 0, .slice none 0 0] 28)) w2.heap.size _ #[.int .i64 xo, .int .i64 xn, .string xs, .slice xka xkn xkc, .slice xna xnm xnc, .slice xla xlm xlc] _ _ gL3)
   have HG5 : Hid (w.grownBy ((w2.alloc (.cells #[.int .i64 0, .int .i64 0, .string ⟨#[]⟩, .slice none 0 0, .slice none 0 0, .slice none 0 0] 28)).setRow w2.heap.size #[.int .i64 xo, .int .i64 xn, .string xs, .slice xka xkn xkc, .slice xna xnm xnc, .slice xla xlm xlc]) none) := gOQ (gBQ (gBQ hgW hg2) hg3) hrow (by omega)
   have D5 : Hid (IsCon (fun b => w.heap.size + 1 < b/\b ≠ w2.heap.size) ((w2.alloc (.cells #[.int .i64 0, .int .i64 0, .string ⟨#[]⟩, .slice none 0 0, .slice none 0 0, .slice none 0 0] 28)).setRow w2.heap.size #[.int .i64 xo, .int .i64 xn, .string xs, .slice xka xkn xkc, .slice xna xnm xnc, .slice xla xlm xlc]) dd) := ((hdd.lt.mono (Q := fun b => w.heap.size + 1 < b/\b ≠ w2.heap.size) (fun b hb _ => by have hb1 : W.heap.size<=b := hb.1; have hb2 := hb.2; exact ⟨by omega, by omega⟩)).grown hg3 (by nofun)).grown hrow (fun q hq hp => hp.2 (oJQ hq).symm)
   clear hrow gM4 gB4 f0 f1 f2 f3 f4 f5 S4 gL3 S3 gM3 e0 e1 e2 e3 e4 e5 gB3 hg3 S2 gM2 gB2 gR2 d0 d1 d2 d3 d4 d5 hdd ho hb2 hg2 kR hgW
   have hL5 : w.heap.size + 1 < w2.heap.size := by omega
   have hTb := HL.out.1
   clear S0 S0a hdr kM kB m0 m1 fm1 c0 c1 c2 c3 c4 c5 HL hHeld
   generalize (w2.alloc (.cells #[.int .i64 0, .int .i64 0, .string ⟨#[]⟩, .slice none 0 0, .slice none 0 0, .slice none 0 0] 28)).setRow w2.heap.size #[.int .i64 xo, .int .i64 xn, .string xs, .slice xka xkn xkc, .slice xna xnm xnc, .slice xla xlm xlc] = V5 at *
   obtain ⟨l0, l1, l2, l3, l4, l5⟩ := cnQ G5.out
   obtain ⟨m0, m1, fm1⟩ := M5.out.cells
   have HSz : Hid (∀ W', V5.grownBy W' none->Calls Tryz.prog 51 #[.agg #[.int .i64 xo, .int .i64 xn, .string xs, .slice xka xkn xkc, .slice xna xnm xnc, .slice xla xlm xlc]] W' fun e w' => e = .returned (.int .i64 (sizeC T))/\Below W'.heap.size W' w') := fun W' hW' => by
    have := csize_any _ dd W' (D5.out.grown hW' (by nofun)) (by rw [hpd]; omega)
    rw [hdv, hpd] at this
    exact this
   go_wp2_with fail
   go_upto_region 6 with fail
   have hwr : IntKind.i64.wrap (left - (sizeC T : Int)) = left - sizeC T := wrap_ok _ (by omega) (by omega)
   have hdV := gDQ V5
   go_region_law (go_simp; go_at_call 51; refine (HSz.out _ hdV).mono ?_; rintro e w3 ⟨rfl, hb3⟩; have hg3 := gBQ hdV (gLQ hb3); have M6 := hJQ (M5.out.grown hg3 (by nofun)); obtain ⟨n0, n1, fn1⟩ := M6.out.cells)
   all_goals
    have hS6 := gSQ w3 mb 1 (.int .i64 (left - sizeC T))
    have M7 := hJQ (M6.out.set (left - sizeC T))
    have gL7 := (hS6.block w2.heap.size (by have := hLQ G5.out; have := hg3.size; omega) (fun e => by have e2 : w2.heap.size = mb := oJQ e; omega)).trans ((hg3.block w2.heap.size (hLQ G5.out) (by nofun)).trans G5.out)
    have gR7 := (hS6.block (w.heap.size + 1) (by have := hLQ R5.out; have := hg3.size; omega) (fun e => by have e2 : w.heap.size + 1 = mb := oJQ e; omega)).trans ((hg3.block (w.heap.size + 1) (hLQ R5.out) (by nofun)).trans R5.out)
    have hrow := gRQ (w3.setCell ⟨mb, 1, none⟩ (.int .i64 (left - sizeC T))) (w.heap.size + 1) #[.int .i64 xo, .int .i64 xn, .string xs, .slice xka xkn xkc, .slice xna xnm xnc, .slice xla xlm xlc]
    have HR8 := hJQ (setRow_heap (w3.setCell ⟨mb, 1, none⟩ (.int .i64 (left - sizeC T))) (w.heap.size + 1) _ #[.int .i64 xo, .int .i64 xn, .string xs, .slice xka xkn xkc, .slice xna xnm xnc, .slice xla xlm xlc] _ _ gR7)
    have M8 := hJQ (M7.out.grown hrow (by intro e; have e2 : w.heap.size + 1 = mb := oJQ e; omega))
    have HG8 := hJQ (gOQ (gBQ (fNQ (gBQ HG5.out hg3) (some mb)) hS6) hrow (by omega))
    have D8 := hJQ ((((D5.out.grown hg3 (by nofun)).grown hS6 (fun q hq hp => by have e2 : mb = q := oJQ hq; have := hp.1; omega)).grown hrow (fun q hq hp => by have e2 : w.heap.size + 1 = q := oJQ hq; have := hp.1; omega)).mono (Q := fun b => w.heap.size<=b) (fun b hb _ => by have := hb.1; show w.heap.size<=b; omega))
    obtain ⟨y0, y1, y2, y3, y4, y5⟩ := cnQ gL7
    clear hrow hS6 M7 M6 hg3 hb3 hdV HSz D5 R5 G5 M5 HG5
    go_wp2_with (refine wpList_store_row rfl 28 _ _ rfl (w.heap.size + 1) _ rfl rfl 28 _ gR7 cIQ rfl (all_one _ rfl) ?_)
    refine bodyPost_ret (results_cell_row rfl _ _ (w.heap.size + 1) 28 #[.int .i64 xo, .int .i64 xn, .string xs, .slice xka xkn xkc, .slice xna xnm xnc, .slice xla xlm xlc] (0, 0) _ rfl HR8.out Tryz.underlying28 rfl cIQ) rfl ?_
    exact ⟨dd, left - sizeC T, by rw [hdv], D8.out, M8.out, HG8.out, by omega, by omega, fun _ => ⟨hpd, rfl⟩, fun hh => by omega⟩
  case r7 =>
   go_simp
   refine hK.out _ _ S0a (fun _ => ?_)
   clear hK K
   refine rd1 6 (by kernel_rfl) (by rfl) (fun K hK => ?_)
   go_simp
   go_at_fn g
   have hg1 := gBQ hdr (gAQ W.drew (.cells #[.int .i64 0, .int .i64 0, .string ⟨#[]⟩, .slice none 0 0, .slice none 0 0, .slice none 0 0] 28))
   have gL1 : (W.drew.alloc (.cells #[.int .i64 0, .int .i64 0, .string ⟨#[]⟩, .slice none 0 0, .slice none 0 0, .slice none 0 0] 28)).heap[w.heap.size + 2]? = some (.cells #[.int .i64 0, .int .i64 0, .string ⟨#[]⟩, .slice none 0 0, .slice none 0 0, .slice none 0 0] 28) := by rw [← hszW]; exact nHQ W.drew (.cells #[.int .i64 0, .int .i64 0, .string ⟨#[]⟩, .slice none 0 0, .slice none 0 0, .slice none 0 0] 28)
   refine (HL.out.2 _ hg1).mono ?_
   rintro e w2 ⟨ho, hb2⟩
   obtain ⟨dd, xo, xn, xs, xka, xkn, xkc, xna, xnm, xnc, xla, xlm, xlc, rfl, hdd, hpd, hdv⟩ := ho.open'
   have hg2 := gBQ hg1 (gLQ hb2)
   have gB2 := (hg2.block _ (hLQ kB) (by nofun)).trans kB
   have gR2 := (hg2.block _ (hLQ kR) (by nofun)).trans kR
   have gM2 : MkAt w2 mb g lb left := kM.grown hg2 (by nofun)
   have gL2 := (hb2.block _ (hLQ gL1)).trans gL1
   obtain ⟨d0, d1, d2, d3, d4, d5⟩ := cnQ gB2
   have S2 : (fun w9 => w9.cell? ⟨mb, 0, none⟩ = some (.func (.func g) #[] lb)/\w9.cell? ⟨w.heap.size, 0, none⟩ = some (.int .i64 op)/\w9.cell? ⟨w.heap.size, 1, none⟩ = some (.int .i64 n)/\w9.cell? ⟨w.heap.size, 2, none⟩ = some (.string s)/\w9.cell? ⟨w.heap.size, 3, none⟩ = some (.slice ka kn kc)/\w9.cell? ⟨w.heap.size, 4, none⟩ = some (.slice na ns.length nc)/\w9.cell? ⟨w.heap.size, 5, none⟩ = some (.slice a l.length c)) w2 := ⟨gM2.cells.1, d0, d1, d2, d3, d4, d5⟩
   refine hK.out _ _ S2 (fun _ => ?_)
   clear hK K
   have hszw2 : w.heap.size + 3<=w2.heap.size := by have := hb2.size; simp at this; omega
   have hsz1 : (W.drew.alloc (.cells #[.int .i64 0, .int .i64 0, .string ⟨#[]⟩, .slice none 0 0, .slice none 0 0, .slice none 0 0] 28)).heap.size = w.heap.size + 3 := by simp; omega
   have hrow := gRQ w2 (w.heap.size + 2) #[.int .i64 xo, .int .i64 xn, .string xs, .slice xka xkn xkc, .slice xna xnm xnc, .slice xla xlm xlc]
   have gM4 : MkAt (w2.setRow (w.heap.size + 2) #[.int .i64 xo, .int .i64 xn, .string xs, .slice xka xkn xkc, .slice xna xnm xnc, .slice xla xlm xlc]) mb g lb left := gM2.grown hrow (by intro e; have e2 : w.heap.size + 2 = mb := oJQ e; omega)
   have gB4 := (hrow.block _ (hLQ gB2) (fun e => by have e2 : w.heap.size = w.heap.size + 2 := oJQ e; omega)).trans gB2
   obtain ⟨f0, f1, f2, f3, f4, f5⟩ := cnQ gB4
   have S4 : (fun w9 => w9.cell? ⟨mb, 0, none⟩ = some (.func (.func g) #[] lb)/\w9.cell? ⟨w.heap.size, 0, none⟩ = some (.int .i64 op)/\w9.cell? ⟨w.heap.size, 1, none⟩ = some (.int .i64 n)/\w9.cell? ⟨w.heap.size, 2, none⟩ = some (.string s)/\w9.cell? ⟨w.heap.size, 3, none⟩ = some (.slice ka kn kc)/\w9.cell? ⟨w.heap.size, 4, none⟩ = some (.slice na ns.length nc)/\w9.cell? ⟨w.heap.size, 5, none⟩ = some (.slice a l.length c)) (w2.setRow (w.heap.size + 2) #[.int .i64 xo, .int .i64 xn, .string xs, .slice xka xkn xkc, .slice xna xnm xnc, .slice xla xlm xlc]) := ⟨gM4.cells.1, f0, f1, f2, f3, f4, f5⟩
   refine held_store 8 (by kernel_rfl) (by rfl) (by rfl) (by rfl) 28 _ _ (by rfl) (w.heap.size + 2) #[.int .i64 xo, .int .i64 xn, .string xs, .slice xka xkn xkc, .slice xna xnm xnc, .slice xla xlm xlc] (by rfl) (by rfl) 28 _ gL2 cIQ rfl (all_one _ rfl) S4 ?_
   refine wpAnyH_done (by kernel_rfl) ?_ _
   have M5 := hJQ gM4
   have R5 := hJQ ((hrow.block _ (hLQ gR2) (fun e => by have e2 : w.heap.size + 1 = w.heap.size + 2 := oJQ e; omega)).trans gR2)
   have G5 := hJQ (setRow_heap w2 (w.heap.size + 2) _ #[.int .i64 xo, .int .i64 xn, .string xs, .slice xka xkn xkc, .slice xna xnm xnc, .slice xla xlm xlc] _ _ gL2)
   have HG5 : Hid (w.grownBy (w2.setRow (w.heap.size + 2) #[.int .i64 xo, .int .i64 xn, .string xs, .slice xka xkn xkc, .slice xna xnm xnc, .slice xla xlm xlc]) none) := gOQ (gBQ hgW hg2) hrow (by omega)
   have D5 : Hid (IsCon (fun b => w.heap.size + 1 < b/\b ≠ w.heap.size + 2) (w2.setRow (w.heap.size + 2) #[.int .i64 xo, .int .i64 xn, .string xs, .slice xka xkn xkc, .slice xna xnm xnc, .slice xla xlm xlc]) dd) := (hdd.mono (Q := fun b => w.heap.size + 1 < b/\b ≠ w.heap.size + 2) (fun b hb _ => by have hb1 : (W.drew.alloc (.cells #[.int .i64 0, .int .i64 0, .string ⟨#[]⟩, .slice none 0 0, .slice none 0 0, .slice none 0 0] 28)).heap.size<=b := hb; exact ⟨by omega, by omega⟩)).grown hrow (fun q hq hp => hp.2 (oJQ hq).symm)
   clear hrow gM4 gB4 f0 f1 f2 f3 f4 f5 S4 S2 gM2 gB2 gR2 gL2 gL1 hg1 d0 d1 d2 d3 d4 d5 hdd ho hb2 hg2 kR hgW
   have hL5 : w.heap.size + 1 < w.heap.size + 2 := by omega
   have hTb := HL.out.1
   clear S0 S0a hdr kM kB m0 m1 fm1 c0 c1 c2 c3 c4 c5 HL hHeld
   generalize w2.setRow (w.heap.size + 2) #[.int .i64 xo, .int .i64 xn, .string xs, .slice xka xkn xkc, .slice xna xnm xnc, .slice xla xlm xlc] = V5 at *
   obtain ⟨l0, l1, l2, l3, l4, l5⟩ := cnQ G5.out
   obtain ⟨m0, m1, fm1⟩ := M5.out.cells
   have HSz : Hid (∀ W', V5.grownBy W' none->Calls Tryz.prog 51 #[.agg #[.int .i64 xo, .int .i64 xn, .string xs, .slice xka xkn xkc, .slice xna xnm xnc, .slice xla xlm xlc]] W' fun e w' => e = .returned (.int .i64 (sizeC T))/\Below W'.heap.size W' w') := fun W' hW' => by
    have := csize_any _ dd W' (D5.out.grown hW' (by nofun)) (by rw [hpd]; omega)
    rw [hdv, hpd] at this
    exact this
   go_wp2_with fail
   go_upto_region 6 with fail
   have hwr : IntKind.i64.wrap (left - (sizeC T : Int)) = left - sizeC T := wrap_ok _ (by omega) (by omega)
   have hdV := gDQ V5
   go_region_law (go_simp; go_at_call 51; refine (HSz.out _ hdV).mono ?_; rintro e w3 ⟨rfl, hb3⟩; have hg3 := gBQ hdV (gLQ hb3); have M6 := hJQ (M5.out.grown hg3 (by nofun)); obtain ⟨n0, n1, fn1⟩ := M6.out.cells)
   all_goals
    have hS6 := gSQ w3 mb 1 (.int .i64 (left - sizeC T))
    have M7 := hJQ (M6.out.set (left - sizeC T))
    have gL7 := (hS6.block (w.heap.size + 2) (by have := hLQ G5.out; have := hg3.size; omega) (fun e => by have e2 : (w.heap.size + 2) = mb := oJQ e; omega)).trans ((hg3.block (w.heap.size + 2) (hLQ G5.out) (by nofun)).trans G5.out)
    have gR7 := (hS6.block (w.heap.size + 1) (by have := hLQ R5.out; have := hg3.size; omega) (fun e => by have e2 : w.heap.size + 1 = mb := oJQ e; omega)).trans ((hg3.block (w.heap.size + 1) (hLQ R5.out) (by nofun)).trans R5.out)
    have hrow := gRQ (w3.setCell ⟨mb, 1, none⟩ (.int .i64 (left - sizeC T))) (w.heap.size + 1) #[.int .i64 xo, .int .i64 xn, .string xs, .slice xka xkn xkc, .slice xna xnm xnc, .slice xla xlm xlc]
    have HR8 := hJQ (setRow_heap (w3.setCell ⟨mb, 1, none⟩ (.int .i64 (left - sizeC T))) (w.heap.size + 1) _ #[.int .i64 xo, .int .i64 xn, .string xs, .slice xka xkn xkc, .slice xna xnm xnc, .slice xla xlm xlc] _ _ gR7)
    have M8 := hJQ (M7.out.grown hrow (by intro e; have e2 : w.heap.size + 1 = mb := oJQ e; omega))
    have HG8 := hJQ (gOQ (gBQ (fNQ (gBQ HG5.out hg3) (some mb)) hS6) hrow (by omega))
    have D8 := hJQ ((((D5.out.grown hg3 (by nofun)).grown hS6 (fun q hq hp => by have e2 : mb = q := oJQ hq; have := hp.1; omega)).grown hrow (fun q hq hp => by have e2 : w.heap.size + 1 = q := oJQ hq; have := hp.1; omega)).mono (Q := fun b => w.heap.size<=b) (fun b hb _ => by have := hb.1; show w.heap.size<=b; omega))
    obtain ⟨y0, y1, y2, y3, y4, y5⟩ := cnQ gL7
    clear hrow hS6 M7 M6 hg3 hb3 hdV HSz D5 R5 G5 M5 HG5
    go_wp2_with (refine wpList_store_row rfl 28 _ _ rfl (w.heap.size + 1) _ rfl rfl 28 _ gR7 cIQ rfl (all_one _ rfl) ?_)
    refine bodyPost_ret (results_cell_row rfl _ _ (w.heap.size + 1) 28 #[.int .i64 xo, .int .i64 xn, .string xs, .slice xka xkn xkc, .slice xna xnm xnc, .slice xla xlm xlc] (0, 0) _ rfl HR8.out Tryz.underlying28 rfl cIQ) rfl ?_
    exact ⟨dd, left - sizeC T, by rw [hdv], D8.out, M8.out, HG8.out, by omega, by omega, fun _ => ⟨hpd, rfl⟩, fun hh => by omega⟩
end Go.Proofs.YtkiffgdinmpljaaGreatDoor
