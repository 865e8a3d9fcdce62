/- (*maker).rebuild at nodes. Printed by gen_rebn.py, expanded by mac.py. -/
import Derived.Test.YtkiffgdinmpljaaGreatDoorF11
set_option linter.unusedVariables false
set_option linter.unusedSimpArgs false
namespace Go.Proofs.YtkiffgdinmpljaaGreatDoor
open Go Go.RowKit
set_option maxHeartbeats 8000000
set_option maxRecDepth 100000
theorem sLQ (l : List Cn) (x : Cn) (h : x ∈ l) : sizeC x<=sizeCL l := by
 induction l with
 | nil => cases h
 | cons y l ih =>
   rw [sizeCL_cons]
   rcases List.mem_cons.1 h with rfl | h
   ·omega
   ·have := ih h; omega
def RebY (P : Nat->Prop) (w0 : World) (mb g : Nat) (lb : Array Value) (x : ConD) (w : World) (left d : Int) : Prop :=
 w0.grownBy w (some mb)/\IsCon P w x/\frmC (pC x) = true/\sizeC (pC x)<=20000/\MkAt w mb g lb left/\-30000<=left/\left<=20000/\0<=d/\d + dCQ (pC x)<=1000
def RebAll (P : Nat->Prop) (w0 : World) (mb g : Nat) (lb : Array Value) (f : Cn->Int->Cn) (x : ConD) : Prop :=
 ∀ (w : World) (left d : Int), RebY P w0 mb g lb x w left d->Calls Tryz.prog 71 #[.pointer (some ⟨mb, 0, none⟩), conV x, .int .i64 d] w (RebOk mb g lb (rebC f d (pC x)) left w)
def Q3 (B R mb : Nat) (b : Nat) : Prop := b < B/\b ≠ R/\b ≠ mb
theorem Kept.of_grown {Q : Nat->Prop} {a b : World} {r : Option Nat} (h : a.grownBy b r) (hr : ∀ q, r = some q->¬ Q q) : Kept Q a b := ⟨h.size, fun q hq hlt => h.block q hlt (fun e => hr q e.symm hq)⟩
theorem Kept.heap {Q : Nat->Prop} {a b : World} (h : Kept Q a b) {q : Nat} {o : Obj} (hq : Q q) (ho : a.heap[q]? = some o) : b.heap[q]? = some o := (h.2 q hq (hLQ ho)).trans ho
theorem reb_node (P : Nat->Prop) (mb g : Nat) (lb : Array Value) (f : Cn->Int->Cn) (w0 : World) (hP : ¬ P mb) (op n : Int) (s : ByteArray) (k : KindD) (nv : Value) (ns : List ByteArray) (lv : Value) (l : List ConD) (ih : ∀ y ∈ l, RebAll P w0 mb g lb f y) (w : World) (left d : Int)
 (HY : RebY P w0 mb g lb (.mk op n s k nv ns lv l) w left d) (hl : 0 < left) (hop : ¬ (op = 1 ∨ op = 2)) :
 Calls Tryz.prog 71 #[.pointer (some ⟨mb, 0, none⟩), conV (.mk op n s k nv ns lv l), .int .i64 d] w (RebOk mb g lb (rebC f d (pC (.mk op n s k nv ns lv l))) left w) := by
 obtain ⟨hw0, h, hf, hsz, hmk, hl0, hl1, hd0, hd1⟩ := HY
 obtain ⟨ka, kc, kn, na, nc, a, c, rfl, _, rfl, _, hks, hcv, hll, hnn, hb0, gC, hsz0, HP, HC0, c0, c1, c2, c3, c4, c5⟩ := open_box h
 rw [hcv]
 clear hcv
 rw [pMQ] at hf hsz hd1 ⊢
 obtain ⟨bb, hbb⟩ : ∃ b, binderB op = b := ⟨_, rfl⟩
 obtain ⟨D, hD⟩ : ∃ D : Int, (if bb = true then d + 1 else d) = D := ⟨_, rfl⟩
 obtain ⟨hD0, hD2⟩ : 0<=D/\D<=d + 1 := by rw [← hD]; split <;> omega
 rw [rebC_node _ _ _ _ _ _ _ _ hop, hbb, hD]
 have HD9 := hJQ hD
 clear hD
 have hfs := fSQ hf
 rw [sMQ] at hsz
 rw [depthC_mk] at hd1
 obtain ⟨hg1, kR, kB, hszW⟩ := fo_box gC
 have hgW := gBQ (gAQ w (.cells #[.int .i64 op, .int .i64 n, .string s, .slice ka kn kc, .slice na ns.length nc, .slice a l.length c] 28)) hg1
 have kM := hmk.grown hgW (by nofun)
 have hlm := hLQ hmk
 have hkv : kindV k = .agg #[.slice ka kn kc] := by show Value.agg #[k.v] = _; rw [hks]
 have HHH := hJQ h
 have HI := hJQ ih
 have HFS := hJQ hfs
 have HW0 := hJQ hw0
 have HBB := hJQ hbb
 have n1 : (op == 1) = false := nEQ (fun e => hop (.inl e))
 have n2 : (op == 2) = false := nEQ (fun e => hop (.inr e))
 have hll2 : l.length<=100000 := by
  have : ∀ q : List Cn, q.length<=sizeCL q := fun q => by
   induction q with
   | nil => simp
   | cons x r ih => rw [sizeCL_cons, List.length_cons]; have := sizeC_pos x; omega
  have := this (l.map pC)
  rw [List.length_map] at this
  omega
 have HPW := hJQ (cVQ (op := op) (n := n) (s := s) (nv := .slice na ns.length nc) (lv := .slice a l.length c) (ns := ns) (l := l) hks)
 clear c0 c1 c2 c3 c4 c5 hb0 gC HP HC0 hsz0 hg1 hf hfs hks hop ih hw0 hmk h hbb
 go_enter Tryz.func71, Tryz.ntmps71
 go_upto_region 1 with fail
 generalize (w.alloc (.cells #[.int .i64 op, .int .i64 n, .string s, .slice ka kn kc, .slice na ns.length nc, .slice a l.length c] 28)).alloc (.cells #[.int .i64 0, .int .i64 0, .string ⟨#[]⟩, .slice none 0 0, .slice none 0 0, .slice none 0 0] 28) = W at *
 obtain ⟨m0, m1, fm1⟩ := kM.cells
 obtain ⟨c0, c1, c2, c3, c4, c5⟩ := cnQ kB
 have hwr : IntKind.i64.wrap (left - 1) = left - 1 := wrap_ok _ (by omega) (by omega)
 have hS := gSQ W mb 1 (.int .i64 (left - 1))
 have kM8 := kM.set (left - 1)
 have kR8 := (hS.block (w.heap.size + 1) (by omega) (fun e => by have e2 : w.heap.size + 1 = mb := oJQ e; omega)).trans kR
 have kB8 := (hS.block w.heap.size (by omega) (fun e => by have e2 : w.heap.size = mb := oJQ e; omega)).trans kB
 have hg8 := gBQ (fNQ hgW (some mb)) hS
 have hsz8 : (W.setCell ⟨mb, 1, none⟩ (.int .i64 (left - 1))).heap.size = w.heap.size + 2 := by simp [hszW]
 clear hS
 go_upto_region 9 with fail
 clear m0 m1 fm1 c0 c1 c2 c3 c4 c5
 generalize W.setCell ⟨mb, 1, none⟩ (.int .i64 (left - 1)) = V at *
 clear kM kR kB hgW hszW
 clear W
 obtain ⟨c0, c1, c2, c3, c4, c5⟩ := cnQ kB8
 have hcV := HHH.out.grown hg8 (fun q hq => by cases hq; exact hP)
 have HKd : Hid (∀ W', V.grownBy W' none->Calls Tryz.prog 109 #[.agg #[.slice ka kn kc]] W' fun e w' => KindOut (fun b => W'.heap.size<=b) (pK k) e w'/\Below W'.heap.size W' w') := fun W' hW' => by
  rw [← hkv]; exact kindOf_any P k W' (hcV.parts.kind.grown hW' (by nofun)) HFS.out.1
 have HNm : Hid (∀ W', V.grownBy W' none->Calls Tryz.prog 56 #[.slice na ns.length nc] W' fun e w' => RowOut (fun b => W'.heap.size<=b) ns e w'/\Below W'.heap.size W' w') := fun W' hW' => clone_any P _ ns W' (hcV.parts.names.grown hW' (by nofun)) HFS.out.2.1
 clear hcV
 have S0 : (fun w9 => w9.cell? ⟨w.heap.size, 0, none⟩ = some (.int .i64 op)/\w9.cell? ⟨w.heap.size, 1, none⟩ = some (.int .i64 n)/\w9.cell? ⟨w.heap.size, 2, none⟩ = some (.string s)/\w9.cell? ⟨w.heap.size, 3, none⟩ = some (.slice ka kn kc)/\w9.cell? ⟨w.heap.size, 4, none⟩ = some (.slice na ns.length nc)/\w9.cell? ⟨w.heap.size, 5, none⟩ = some (.slice a l.length c)) V.drew := ⟨c0, c1, c2, c3, c4, c5⟩
 have hdr := gDQ V
 refine wp_region_held_drew (S := (fun w9 => w9.cell? ⟨w.heap.size, 0, none⟩ = some (.int .i64 op)/\w9.cell? ⟨w.heap.size, 1, none⟩ = some (.int .i64 n)/\w9.cell? ⟨w.heap.size, 2, none⟩ = some (.string s)/\w9.cell? ⟨w.heap.size, 3, none⟩ = some (.slice ka kn kc)/\w9.cell? ⟨w.heap.size, 4, none⟩ = some (.slice na ns.length nc)/\w9.cell? ⟨w.heap.size, 5, none⟩ = some (.slice a l.length c))) (by kernel_rfl) S0 (fun hHeld => ?_)
 refine tks (b := ?_) (by kernel_rfl) (fun _ _ _ _ _ h => h) S0 10 [0, 1, 2, 3, 4, 5, 6, 7, 9, 10] (by kernel_rfl) ?_ ?_
 rotate_left
 ·iterate 10 (refine yc (v := ?_) rfl rfl (by rfl) (fun w9 hSw => ?_) ?_; rotate_left; (focus go_simp; try rfl); simp only [Act.put, l1Q, l2Q, l3Q])
  exact rfl
 refine wpAnyH_ready (rs := [8, 13]) (by kernel_rfl) (by simp) (AllReadyH.cons (by rfl) (fun K hK => ?r8) (AllReadyH.cons (by rfl) (fun K hK => ?r13) (AllReadyH.nil)))
 case' r8 =>
  go_simp
  go_at_call 109
  refine (HKd.out V.drew hdr).mono ?_
  rintro e w1 ⟨⟨kd, rfl, hkd, hpk⟩, hbk⟩
  obtain ⟨ld, da, dc, hdk⟩ := kind_shape hkd
  subst hdk
  rw [show kindV (.mk (.slice da ld.length dc) ld) = .agg #[.slice da ld.length dc] from rfl]
  have hgk := gBQ hdr (gLQ hbk)
  have gBk := (hgk.block _ (hLQ kB8) (by nofun)).trans kB8
  obtain ⟨k0, k1, k2, k3, k4, k5⟩ := cnQ gBk
  have Sk : (fun w9 => w9.cell? ⟨w.heap.size, 0, none⟩ = some (.int .i64 op)/\w9.cell? ⟨w.heap.size, 1, none⟩ = some (.int .i64 n)/\w9.cell? ⟨w.heap.size, 2, none⟩ = some (.string s)/\w9.cell? ⟨w.heap.size, 3, none⟩ = some (.slice ka kn kc)/\w9.cell? ⟨w.heap.size, 4, none⟩ = some (.slice na ns.length nc)/\w9.cell? ⟨w.heap.size, 5, none⟩ = some (.slice a l.length c)) w1 := ⟨k0, k1, k2, k3, k4, k5⟩
  refine hK.out _ _ Sk (fun _ => ?_)
  clear hK K
  have hs1 : w.heap.size + 2<=w1.heap.size := by have := hgk.size; omega
  refine wpAnyH_ready (rs := [11, 13]) (by kernel_rfl) (by simp) (AllReadyH.cons (by rfl) (fun K hK => ?s11) (AllReadyH.cons (by rfl) (fun K hK => ?s13) (AllReadyH.nil)))
  case' s11 =>
   go_simp
   go_at_call 56
   refine (HNm.out w1 hgk).mono ?_
   rintro e w2 ⟨⟨qa, qc, rfl, hqr⟩, hbn⟩
   have hgn := gBQ hgk (gLQ hbn)
   have gBm := (hgn.block _ (hLQ kB8) (by nofun)).trans kB8
   obtain ⟨m0, m1, m2, m3, m4, m5⟩ := cnQ gBm
   have Sm : (fun w9 => w9.cell? ⟨w.heap.size, 0, none⟩ = some (.int .i64 op)/\w9.cell? ⟨w.heap.size, 1, none⟩ = some (.int .i64 n)/\w9.cell? ⟨w.heap.size, 2, none⟩ = some (.string s)/\w9.cell? ⟨w.heap.size, 3, none⟩ = some (.slice ka kn kc)/\w9.cell? ⟨w.heap.size, 4, none⟩ = some (.slice na ns.length nc)/\w9.cell? ⟨w.heap.size, 5, none⟩ = some (.slice a l.length c)) w2 := ⟨m0, m1, m2, m3, m4, m5⟩
   refine hK.out _ _ Sm (fun _ => ?_)
   clear hK K
   have hs2 : w1.heap.size<=w2.heap.size := hbn.size
   refine tks (b := ?_) (by kernel_rfl) (fun _ _ _ _ _ h => h) Sm 1 [12] (by kernel_rfl) ?_ ?_
   rotate_left
   ·refine yc (v := ?_) rfl rfl (by rfl) (fun w9 hSw => ?_) ?_; rotate_left; (focus go_simp; try rfl); simp only [Act.put, l1Q, l2Q, l3Q]
    exact rfl
   refine rd1 13 (by kernel_rfl) (by rfl) (fun K hK => ?_)
   go_simp
   have hga := gBQ hgn (gAQ w2 (.cells #[.int .i64 0, .int .i64 0, .string ⟨#[]⟩, .slice none 0 0, .slice none 0 0, .slice none 0 0] 28))
   have gBp := (hga.block _ (hLQ kB8) (by nofun)).trans kB8
   obtain ⟨p0, p1, p2, p3, p4, p5⟩ := cnQ gBp
   have Sp : (fun w9 => w9.cell? ⟨w.heap.size, 0, none⟩ = some (.int .i64 op)/\w9.cell? ⟨w.heap.size, 1, none⟩ = some (.int .i64 n)/\w9.cell? ⟨w.heap.size, 2, none⟩ = some (.string s)/\w9.cell? ⟨w.heap.size, 3, none⟩ = some (.slice ka kn kc)/\w9.cell? ⟨w.heap.size, 4, none⟩ = some (.slice na ns.length nc)/\w9.cell? ⟨w.heap.size, 5, none⟩ = some (.slice a l.length c)) (w2.alloc (.cells #[.int .i64 0, .int .i64 0, .string ⟨#[]⟩, .slice none 0 0, .slice none 0 0, .slice none 0 0] 28)) := ⟨p0, p1, p2, p3, p4, p5⟩
   refine hK.out _ _ Sp (fun _ => ?_)
   clear hK K
   have gL := nHQ w2 (.cells #[.int .i64 0, .int .i64 0, .string ⟨#[]⟩, .slice none 0 0, .slice none 0 0, .slice none 0 0] 28)
   have hRlt : w2.heap.size < (w2.alloc (.cells #[.int .i64 0, .int .i64 0, .string ⟨#[]⟩, .slice none 0 0, .slice none 0 0, .slice none 0 0] 28)).heap.size := hLQ gL
   have hrow := gRQ (w2.alloc (.cells #[.int .i64 0, .int .i64 0, .string ⟨#[]⟩, .slice none 0 0, .slice none 0 0, .slice none 0 0] 28)) (w2.heap.size) #[.int .i64 op, .int .i64 n, .string s, .slice da ld.length dc, .slice qa ns.length qc, .slice none 0 0]
   have gB9 := (hrow.block _ (hLQ gBp) (fun e => by have e2 : w.heap.size = w2.heap.size := oJQ e; omega)).trans gBp
   obtain ⟨z0, z1, z2, z3, z4, z5⟩ := cnQ gB9
   have Sz : (fun w9 => w9.cell? ⟨w.heap.size, 0, none⟩ = some (.int .i64 op)/\w9.cell? ⟨w.heap.size, 1, none⟩ = some (.int .i64 n)/\w9.cell? ⟨w.heap.size, 2, none⟩ = some (.string s)/\w9.cell? ⟨w.heap.size, 3, none⟩ = some (.slice ka kn kc)/\w9.cell? ⟨w.heap.size, 4, none⟩ = some (.slice na ns.length nc)/\w9.cell? ⟨w.heap.size, 5, none⟩ = some (.slice a l.length c)) ((w2.alloc (.cells #[.int .i64 0, .int .i64 0, .string ⟨#[]⟩, .slice none 0 0, .slice none 0 0, .slice none 0 0] 28)).setRow (w2.heap.size) #[.int .i64 op, .int .i64 n, .string s, .slice da ld.length dc, .slice qa ns.length qc, .slice none 0 0]) := ⟨z0, z1, z2, z3, z4, z5⟩
   refine held_store 14 (by kernel_rfl) (by rfl) (by rfl) (by rfl) 28 _ _ (by rfl) (w2.heap.size) #[.int .i64 op, .int .i64 n, .string s, .slice da ld.length dc, .slice qa ns.length qc, .slice none 0 0] (by rfl) (by rfl) 28 _ gL cIQ rfl (all_one _ rfl) Sz ?_
   refine wpAnyH_done (by kernel_rfl) ?_ _
   have G9 := hJQ (setRow_heap (w2.alloc (.cells #[.int .i64 0, .int .i64 0, .string ⟨#[]⟩, .slice none 0 0, .slice none 0 0, .slice none 0 0] 28)) (w2.heap.size) _ #[.int .i64 op, .int .i64 n, .string s, .slice da ld.length dc, .slice qa ns.length qc, .slice none 0 0] _ _ gL)
   have HB9 := hJQ gB9
   have HR9 := hJQ ((hrow.block _ (hLQ ((hga.block _ (hLQ kR8) (by nofun)).trans kR8)) (fun e => by have e2 : w.heap.size + 1 = w2.heap.size := oJQ e; omega)).trans ((hga.block _ (hLQ kR8) (by nofun)).trans kR8))
   have HM9 := hJQ ((kM8.grown hga (by nofun)).grown hrow (by intro e; have e2 : w2.heap.size = mb := oJQ e; omega))
   have HG9 := hJQ (gOQ (gBQ hg8 (fNQ hga (some mb))) hrow (by omega))
   have HK9 : Hid (IsKind (fun b => w.heap.size + 1 < b/\b ≠ w2.heap.size) ((w2.alloc (.cells #[.int .i64 0, .int .i64 0, .string ⟨#[]⟩, .slice none 0 0, .slice none 0 0, .slice none 0 0] 28)).setRow (w2.heap.size) #[.int .i64 op, .int .i64 n, .string s, .slice da ld.length dc, .slice qa ns.length qc, .slice none 0 0]) (.mk (.slice da ld.length dc) ld)/\pK (.mk (.slice da ld.length dc) ld) = pK k) := ⟨(((hkd.lt.mono (Q := fun b => w.heap.size + 1 < b/\b ≠ w2.heap.size) (fun b hb _ => by have h1 : V.drew.heap.size<=b := hb.1; have h2 := hb.2; have h3 : V.drew.heap.size = V.heap.size := rfl; exact ⟨by omega, by omega⟩)).grown (gLQ hbn) (by nofun)).grown (gAQ w2 (.cells #[.int .i64 0, .int .i64 0, .string ⟨#[]⟩, .slice none 0 0, .slice none 0 0, .slice none 0 0] 28)) (by nofun)).grown hrow (fun q hq hp => hp.2 (oJQ hq).symm), hpk⟩
   have HN9 : Hid (RowP (fun b => w.heap.size + 1 < b/\b ≠ w2.heap.size) ((w2.alloc (.cells #[.int .i64 0, .int .i64 0, .string ⟨#[]⟩, .slice none 0 0, .slice none 0 0, .slice none 0 0] 28)).setRow (w2.heap.size) #[.int .i64 op, .int .i64 n, .string s, .slice da ld.length dc, .slice qa ns.length qc, .slice none 0 0]) (.slice qa ns.length qc) ns.length (strCells ns)) := ((hqr.mono (Q := fun b => w.heap.size + 1 < b/\b ≠ w2.heap.size) (fun b hb hlt => by have h1 : w1.heap.size<=b := hb; exact ⟨by omega, by omega⟩)).grown (gAQ w2 (.cells #[.int .i64 0, .int .i64 0, .string ⟨#[]⟩, .slice none 0 0, .slice none 0 0, .slice none 0 0] 28)) (by nofun)).grown hrow (fun q hq hp => hp.2 (oJQ hq).symm)
   have hR9 : w.heap.size + 1 < w2.heap.size/\w2.heap.size < ((w2.alloc (.cells #[.int .i64 0, .int .i64 0, .string ⟨#[]⟩, .slice none 0 0, .slice none 0 0, .slice none 0 0] 28)).setRow (w2.heap.size) #[.int .i64 op, .int .i64 n, .string s, .slice da ld.length dc, .slice qa ns.length qc, .slice none 0 0]).heap.size := ⟨by omega, by rw [size_setRow]; exact hRlt⟩
   clear S0 hdr HKd HNm kM8 kR8 kB8 hg8 hpk c0 c1 c2 c3 c4 c5 hHeld
   generalize (w2.alloc (.cells #[.int .i64 0, .int .i64 0, .string ⟨#[]⟩, .slice none 0 0, .slice none 0 0, .slice none 0 0] 28)).setRow w2.heap.size #[.int .i64 op, .int .i64 n, .string s, .slice da ld.length dc, .slice qa ns.length qc, .slice none 0 0] = V9 at *
   generalize hRR : w2.heap.size = R9 at *
   clear hRlt hrow gB9 z0 z1 z2 z3 z4 z5 Sz gL hga hgn hgk hbn hbk hkd hqr gBp p0 p1 p2 p3 p4 p5 Sp gBm m0 m1 m2 m3 m4 m5 Sm gBk k0 k1 k2 k3 k4 k5 Sk
  case' s13 =>
   go_simp
   have hga := gBQ hgk (gAQ w1 (.cells #[.int .i64 0, .int .i64 0, .string ⟨#[]⟩, .slice none 0 0, .slice none 0 0, .slice none 0 0] 28))
   have gBp := (hga.block _ (hLQ kB8) (by nofun)).trans kB8
   obtain ⟨p0, p1, p2, p3, p4, p5⟩ := cnQ gBp
   have Sp : (fun w9 => w9.cell? ⟨w.heap.size, 0, none⟩ = some (.int .i64 op)/\w9.cell? ⟨w.heap.size, 1, none⟩ = some (.int .i64 n)/\w9.cell? ⟨w.heap.size, 2, none⟩ = some (.string s)/\w9.cell? ⟨w.heap.size, 3, none⟩ = some (.slice ka kn kc)/\w9.cell? ⟨w.heap.size, 4, none⟩ = some (.slice na ns.length nc)/\w9.cell? ⟨w.heap.size, 5, none⟩ = some (.slice a l.length c)) (w1.alloc (.cells #[.int .i64 0, .int .i64 0, .string ⟨#[]⟩, .slice none 0 0, .slice none 0 0, .slice none 0 0] 28)) := ⟨p0, p1, p2, p3, p4, p5⟩
   refine hK.out _ _ Sp (fun _ => ?_)
   clear hK K
   have gL0 := nHQ w1 (.cells #[.int .i64 0, .int .i64 0, .string ⟨#[]⟩, .slice none 0 0, .slice none 0 0, .slice none 0 0] 28)
   have hsa : (w1.alloc (.cells #[.int .i64 0, .int .i64 0, .string ⟨#[]⟩, .slice none 0 0, .slice none 0 0, .slice none 0 0] 28)).heap.size = w1.heap.size + 1 := by simp
   refine rd1 11 (by kernel_rfl) (by rfl) (fun K hK => ?_)
   go_simp
   go_at_call 56
   refine (HNm.out (w1.alloc (.cells #[.int .i64 0, .int .i64 0, .string ⟨#[]⟩, .slice none 0 0, .slice none 0 0, .slice none 0 0] 28)) hga).mono ?_
   rintro e w2 ⟨⟨qa, qc, rfl, hqr⟩, hbn⟩
   have hgn := gBQ hga (gLQ hbn)
   have gBm := (hgn.block _ (hLQ kB8) (by nofun)).trans kB8
   obtain ⟨m0, m1, m2, m3, m4, m5⟩ := cnQ gBm
   have Sm : (fun w9 => w9.cell? ⟨w.heap.size, 0, none⟩ = some (.int .i64 op)/\w9.cell? ⟨w.heap.size, 1, none⟩ = some (.int .i64 n)/\w9.cell? ⟨w.heap.size, 2, none⟩ = some (.string s)/\w9.cell? ⟨w.heap.size, 3, none⟩ = some (.slice ka kn kc)/\w9.cell? ⟨w.heap.size, 4, none⟩ = some (.slice na ns.length nc)/\w9.cell? ⟨w.heap.size, 5, none⟩ = some (.slice a l.length c)) w2 := ⟨m0, m1, m2, m3, m4, m5⟩
   refine hK.out _ _ Sm (fun _ => ?_)
   clear hK K
   have hs2 : w1.heap.size + 1<=w2.heap.size := by have := hbn.size; omega
   have gL := (hbn.block _ (by omega)).trans gL0
   refine tks (b := ?_) (by kernel_rfl) (fun _ _ _ _ _ h => h) Sm 1 [12] (by kernel_rfl) ?_ ?_
   rotate_left
   ·refine yc (v := ?_) rfl rfl (by rfl) (fun w9 hSw => ?_) ?_; rotate_left; (focus go_simp; try rfl); simp only [Act.put, l1Q, l2Q, l3Q]
    exact rfl
   have hRlt : w1.heap.size < (w2).heap.size := hLQ gL
   have hrow := gRQ (w2) (w1.heap.size) #[.int .i64 op, .int .i64 n, .string s, .slice da ld.length dc, .slice qa ns.length qc, .slice none 0 0]
   have gB9 := (hrow.block _ (hLQ gBm) (fun e => by have e2 : w.heap.size = w1.heap.size := oJQ e; omega)).trans gBm
   obtain ⟨z0, z1, z2, z3, z4, z5⟩ := cnQ gB9
   have Sz : (fun w9 => w9.cell? ⟨w.heap.size, 0, none⟩ = some (.int .i64 op)/\w9.cell? ⟨w.heap.size, 1, none⟩ = some (.int .i64 n)/\w9.cell? ⟨w.heap.size, 2, none⟩ = some (.string s)/\w9.cell? ⟨w.heap.size, 3, none⟩ = some (.slice ka kn kc)/\w9.cell? ⟨w.heap.size, 4, none⟩ = some (.slice na ns.length nc)/\w9.cell? ⟨w.heap.size, 5, none⟩ = some (.slice a l.length c)) ((w2).setRow (w1.heap.size) #[.int .i64 op, .int .i64 n, .string s, .slice da ld.length dc, .slice qa ns.length qc, .slice none 0 0]) := ⟨z0, z1, z2, z3, z4, z5⟩
   refine held_store 14 (by kernel_rfl) (by rfl) (by rfl) (by rfl) 28 _ _ (by rfl) (w1.heap.size) #[.int .i64 op, .int .i64 n, .string s, .slice da ld.length dc, .slice qa ns.length qc, .slice none 0 0] (by rfl) (by rfl) 28 _ gL cIQ rfl (all_one _ rfl) Sz ?_
   refine wpAnyH_done (by kernel_rfl) ?_ _
   have G9 := hJQ (setRow_heap (w2) (w1.heap.size) _ #[.int .i64 op, .int .i64 n, .string s, .slice da ld.length dc, .slice qa ns.length qc, .slice none 0 0] _ _ gL)
   have HB9 := hJQ gB9
   have HR9 := hJQ ((hrow.block _ (hLQ ((hgn.block _ (hLQ kR8) (by nofun)).trans kR8)) (fun e => by have e2 : w.heap.size + 1 = w1.heap.size := oJQ e; omega)).trans ((hgn.block _ (hLQ kR8) (by nofun)).trans kR8))
   have HM9 := hJQ ((kM8.grown hgn (by nofun)).grown hrow (by intro e; have e2 : w1.heap.size = mb := oJQ e; omega))
   have HG9 := hJQ (gOQ (gBQ hg8 (fNQ hgn (some mb))) hrow (by omega))
   have HK9 : Hid (IsKind (fun b => w.heap.size + 1 < b/\b ≠ w1.heap.size) ((w2).setRow (w1.heap.size) #[.int .i64 op, .int .i64 n, .string s, .slice da ld.length dc, .slice qa ns.length qc, .slice none 0 0]) (.mk (.slice da ld.length dc) ld)/\pK (.mk (.slice da ld.length dc) ld) = pK k) := ⟨(((hkd.lt.mono (Q := fun b => w.heap.size + 1 < b/\b ≠ w1.heap.size) (fun b hb _ => by have h1 : V.drew.heap.size<=b := hb.1; have h2 := hb.2; have h3 : V.drew.heap.size = V.heap.size := rfl; exact ⟨by omega, by omega⟩)).grown (gAQ w1 (.cells #[.int .i64 0, .int .i64 0, .string ⟨#[]⟩, .slice none 0 0, .slice none 0 0, .slice none 0 0] 28)) (by nofun)).grown (gLQ hbn) (by nofun)).grown hrow (fun q hq hp => hp.2 (oJQ hq).symm), hpk⟩
   have HN9 : Hid (RowP (fun b => w.heap.size + 1 < b/\b ≠ w1.heap.size) ((w2).setRow (w1.heap.size) #[.int .i64 op, .int .i64 n, .string s, .slice da ld.length dc, .slice qa ns.length qc, .slice none 0 0]) (.slice qa ns.length qc) ns.length (strCells ns)) := (hqr.mono (Q := fun b => w.heap.size + 1 < b/\b ≠ w1.heap.size) (fun b hb hlt => by have h1 : (w1.alloc (.cells #[.int .i64 0, .int .i64 0, .string ⟨#[]⟩, .slice none 0 0, .slice none 0 0, .slice none 0 0] 28)).heap.size<=b := hb; exact ⟨by omega, by omega⟩)).grown hrow (fun q hq hp => hp.2 (oJQ hq).symm)
   have hR9 : w.heap.size + 1 < w1.heap.size/\w1.heap.size < ((w2).setRow (w1.heap.size) #[.int .i64 op, .int .i64 n, .string s, .slice da ld.length dc, .slice qa ns.length qc, .slice none 0 0]).heap.size := ⟨by omega, by rw [size_setRow]; exact hRlt⟩
   clear S0 hdr HKd HNm kM8 kR8 kB8 hg8 hpk c0 c1 c2 c3 c4 c5 hHeld
   generalize w2.setRow w1.heap.size #[.int .i64 op, .int .i64 n, .string s, .slice da ld.length dc, .slice qa ns.length qc, .slice none 0 0] = V9 at *
   generalize hRR : w1.heap.size = R9 at *
   clear hRlt hrow gB9 z0 z1 z2 z3 z4 z5 Sz gL gL0 hga hgn hgk hbn hbk hkd hqr gBp p0 p1 p2 p3 p4 p5 Sp gBm m0 m1 m2 m3 m4 m5 Sm gBk k0 k1 k2 k3 k4 k5 Sk
 case' r13 =>
  go_simp
  have hga := gBQ hdr (gAQ V.drew (.cells #[.int .i64 0, .int .i64 0, .string ⟨#[]⟩, .slice none 0 0, .slice none 0 0, .slice none 0 0] 28))
  have gBp := (hga.block _ (hLQ kB8) (by nofun)).trans kB8
  obtain ⟨p0, p1, p2, p3, p4, p5⟩ := cnQ gBp
  have Sp : (fun w9 => w9.cell? ⟨w.heap.size, 0, none⟩ = some (.int .i64 op)/\w9.cell? ⟨w.heap.size, 1, none⟩ = some (.int .i64 n)/\w9.cell? ⟨w.heap.size, 2, none⟩ = some (.string s)/\w9.cell? ⟨w.heap.size, 3, none⟩ = some (.slice ka kn kc)/\w9.cell? ⟨w.heap.size, 4, none⟩ = some (.slice na ns.length nc)/\w9.cell? ⟨w.heap.size, 5, none⟩ = some (.slice a l.length c)) (V.drew.alloc (.cells #[.int .i64 0, .int .i64 0, .string ⟨#[]⟩, .slice none 0 0, .slice none 0 0, .slice none 0 0] 28)) := ⟨p0, p1, p2, p3, p4, p5⟩
  refine hK.out _ _ Sp (fun _ => ?_)
  clear hK K
  have gL0 : (V.drew.alloc (.cells #[.int .i64 0, .int .i64 0, .string ⟨#[]⟩, .slice none 0 0, .slice none 0 0, .slice none 0 0] 28)).heap[w.heap.size + 2]? = some (.cells #[.int .i64 0, .int .i64 0, .string ⟨#[]⟩, .slice none 0 0, .slice none 0 0, .slice none 0 0] 28) := by rw [← hsz8]; exact nHQ V.drew (.cells #[.int .i64 0, .int .i64 0, .string ⟨#[]⟩, .slice none 0 0, .slice none 0 0, .slice none 0 0] 28)
  have hsa : (V.drew.alloc (.cells #[.int .i64 0, .int .i64 0, .string ⟨#[]⟩, .slice none 0 0, .slice none 0 0, .slice none 0 0] 28)).heap.size = w.heap.size + 3 := by simp; omega
  refine rd1 8 (by kernel_rfl) (by rfl) (fun K hK => ?_)
  go_simp
  go_at_call 109
  refine (HKd.out (V.drew.alloc (.cells #[.int .i64 0, .int .i64 0, .string ⟨#[]⟩, .slice none 0 0, .slice none 0 0, .slice none 0 0] 28)) hga).mono ?_
  rintro e w1 ⟨⟨kd, rfl, hkd, hpk⟩, hbk⟩
  obtain ⟨ld, da, dc, hdk⟩ := kind_shape hkd
  subst hdk
  rw [show kindV (.mk (.slice da ld.length dc) ld) = .agg #[.slice da ld.length dc] from rfl]
  have hgk := gBQ hga (gLQ hbk)
  have gBk := (hgk.block _ (hLQ kB8) (by nofun)).trans kB8
  obtain ⟨k0, k1, k2, k3, k4, k5⟩ := cnQ gBk
  have Sk : (fun w9 => w9.cell? ⟨w.heap.size, 0, none⟩ = some (.int .i64 op)/\w9.cell? ⟨w.heap.size, 1, none⟩ = some (.int .i64 n)/\w9.cell? ⟨w.heap.size, 2, none⟩ = some (.string s)/\w9.cell? ⟨w.heap.size, 3, none⟩ = some (.slice ka kn kc)/\w9.cell? ⟨w.heap.size, 4, none⟩ = some (.slice na ns.length nc)/\w9.cell? ⟨w.heap.size, 5, none⟩ = some (.slice a l.length c)) w1 := ⟨k0, k1, k2, k3, k4, k5⟩
  refine hK.out _ _ Sk (fun _ => ?_)
  clear hK K
  have hs1 : w.heap.size + 3<=w1.heap.size := by have := hbk.size; omega
  refine rd1 11 (by kernel_rfl) (by rfl) (fun K hK => ?_)
  go_simp
  go_at_call 56
  refine (HNm.out w1 hgk).mono ?_
  rintro e w2 ⟨⟨qa, qc, rfl, hqr⟩, hbn⟩
  have hgn := gBQ hgk (gLQ hbn)
  have gBm := (hgn.block _ (hLQ kB8) (by nofun)).trans kB8
  obtain ⟨m0, m1, m2, m3, m4, m5⟩ := cnQ gBm
  have Sm : (fun w9 => w9.cell? ⟨w.heap.size, 0, none⟩ = some (.int .i64 op)/\w9.cell? ⟨w.heap.size, 1, none⟩ = some (.int .i64 n)/\w9.cell? ⟨w.heap.size, 2, none⟩ = some (.string s)/\w9.cell? ⟨w.heap.size, 3, none⟩ = some (.slice ka kn kc)/\w9.cell? ⟨w.heap.size, 4, none⟩ = some (.slice na ns.length nc)/\w9.cell? ⟨w.heap.size, 5, none⟩ = some (.slice a l.length c)) w2 := ⟨m0, m1, m2, m3, m4, m5⟩
  refine hK.out _ _ Sm (fun _ => ?_)
  clear hK K
  have hs2 : w1.heap.size<=w2.heap.size := hbn.size
  have gL := (hbn.block _ (by omega)).trans ((hbk.block _ (by omega)).trans gL0)
  refine tks (b := ?_) (by kernel_rfl) (fun _ _ _ _ _ h => h) Sm 1 [12] (by kernel_rfl) ?_ ?_
  rotate_left
  ·refine yc (v := ?_) rfl rfl (by rfl) (fun w9 hSw => ?_) ?_; rotate_left; (focus go_simp; try rfl); simp only [Act.put, l1Q, l2Q, l3Q]
   exact rfl
  have hRlt : (w.heap.size + 2) < (w2).heap.size := hLQ gL
  have hrow := gRQ (w2) ((w.heap.size + 2)) #[.int .i64 op, .int .i64 n, .string s, .slice da ld.length dc, .slice qa ns.length qc, .slice none 0 0]
  have gB9 := (hrow.block _ (hLQ gBm) (fun e => by have e2 : w.heap.size = (w.heap.size + 2) := oJQ e; omega)).trans gBm
  obtain ⟨z0, z1, z2, z3, z4, z5⟩ := cnQ gB9
  have Sz : (fun w9 => w9.cell? ⟨w.heap.size, 0, none⟩ = some (.int .i64 op)/\w9.cell? ⟨w.heap.size, 1, none⟩ = some (.int .i64 n)/\w9.cell? ⟨w.heap.size, 2, none⟩ = some (.string s)/\w9.cell? ⟨w.heap.size, 3, none⟩ = some (.slice ka kn kc)/\w9.cell? ⟨w.heap.size, 4, none⟩ = some (.slice na ns.length nc)/\w9.cell? ⟨w.heap.size, 5, none⟩ = some (.slice a l.length c)) ((w2).setRow ((w.heap.size + 2)) #[.int .i64 op, .int .i64 n, .string s, .slice da ld.length dc, .slice qa ns.length qc, .slice none 0 0]) := ⟨z0, z1, z2, z3, z4, z5⟩
  refine held_store 14 (by kernel_rfl) (by rfl) (by rfl) (by rfl) 28 _ _ (by rfl) ((w.heap.size + 2)) #[.int .i64 op, .int .i64 n, .string s, .slice da ld.length dc, .slice qa ns.length qc, .slice none 0 0] (by rfl) (by rfl) 28 _ gL cIQ rfl (all_one _ rfl) Sz ?_
  refine wpAnyH_done (by kernel_rfl) ?_ _
  have G9 := hJQ (setRow_heap (w2) ((w.heap.size + 2)) _ #[.int .i64 op, .int .i64 n, .string s, .slice da ld.length dc, .slice qa ns.length qc, .slice none 0 0] _ _ gL)
  have HB9 := hJQ gB9
  have HR9 := hJQ ((hrow.block _ (hLQ ((hgn.block _ (hLQ kR8) (by nofun)).trans kR8)) (fun e => by have e2 : w.heap.size + 1 = (w.heap.size + 2) := oJQ e; omega)).trans ((hgn.block _ (hLQ kR8) (by nofun)).trans kR8))
  have HM9 := hJQ ((kM8.grown hgn (by nofun)).grown hrow (by intro e; have e2 : (w.heap.size + 2) = mb := oJQ e; omega))
  have HG9 := hJQ (gOQ (gBQ hg8 (fNQ hgn (some mb))) hrow (by omega))
  have HK9 : Hid (IsKind (fun b => w.heap.size + 1 < b/\b ≠ (w.heap.size + 2)) ((w2).setRow ((w.heap.size + 2)) #[.int .i64 op, .int .i64 n, .string s, .slice da ld.length dc, .slice qa ns.length qc, .slice none 0 0]) (.mk (.slice da ld.length dc) ld)/\pK (.mk (.slice da ld.length dc) ld) = pK k) := ⟨((hkd.mono (Q := fun b => w.heap.size + 1 < b/\b ≠ w.heap.size + 2) (fun b hb _ => by have h1 : (V.drew.alloc (.cells #[.int .i64 0, .int .i64 0, .string ⟨#[]⟩, .slice none 0 0, .slice none 0 0, .slice none 0 0] 28)).heap.size<=b := hb; exact ⟨by omega, by omega⟩)).grown (gLQ hbn) (by nofun)).grown hrow (fun q hq hp => hp.2 (oJQ hq).symm), hpk⟩
  have HN9 : Hid (RowP (fun b => w.heap.size + 1 < b/\b ≠ (w.heap.size + 2)) ((w2).setRow ((w.heap.size + 2)) #[.int .i64 op, .int .i64 n, .string s, .slice da ld.length dc, .slice qa ns.length qc, .slice none 0 0]) (.slice qa ns.length qc) ns.length (strCells ns)) := (hqr.mono (Q := fun b => w.heap.size + 1 < b/\b ≠ w.heap.size + 2) (fun b hb hlt => by have h1 : w1.heap.size<=b := hb; exact ⟨by omega, by omega⟩)).grown hrow (fun q hq hp => hp.2 (oJQ hq).symm)
  have hR9 : w.heap.size + 1 < (w.heap.size + 2)/\(w.heap.size + 2) < ((w2).setRow ((w.heap.size + 2)) #[.int .i64 op, .int .i64 n, .string s, .slice da ld.length dc, .slice qa ns.length qc, .slice none 0 0]).heap.size := ⟨by omega, by rw [size_setRow]; exact hRlt⟩
  clear S0 hdr HKd HNm kM8 kR8 kB8 hg8 hpk c0 c1 c2 c3 c4 c5 hHeld
  generalize w2.setRow (w.heap.size + 2) #[.int .i64 op, .int .i64 n, .string s, .slice da ld.length dc, .slice qa ns.length qc, .slice none 0 0] = V9 at *
  generalize hRR : w.heap.size + 2 = R9 at *
  clear hRlt hrow gB9 z0 z1 z2 z3 z4 z5 Sz gL gL0 hga hgn hgk hbn hbk hkd hqr gBp p0 p1 p2 p3 p4 p5 Sp gBm m0 m1 m2 m3 m4 m5 Sm gBk k0 k1 k2 k3 k4 k5 Sk
 all_goals
  obtain ⟨c0, c1, c2, c3, c4, c5⟩ := cnQ HB9.out
  have hg9 := HG9.out
  have HBi : Hid (Calls Tryz.prog 88 #[(.agg #[.int .i64 op, .int .i64 n, .string s, .slice ka kn kc, .slice na ns.length nc, .slice a l.length c])] V9 fun e w' => e = .returned (.bool bb)/\Below V9.heap.size V9 w') := by
   have := binder_any P _ V9 (HHH.out.grown hg9 (fun q hq => by cases hq; exact hP))
   rw [HPW.out, show (ConD.mk op n s k (.slice na ns.length nc) ns (.slice a l.length c) l).op = op from rfl, HBB.out] at this
   exact this
  go_wp2_with fail
  refine HBi.out.mono ?_
  rintro e w3 ⟨rfl, hb3⟩
  have hg3 := gLQ hb3
  have hsz3 := hb3.size
  have HC3 : Hid (MkC (fun b => w.heap.size + 1 < b) w3 w3.heap.size R9 (.int .i64 op) (.int .i64 n) (.string s) (.slice da ld.length dc) (.slice qa ns.length qc) (.slice none 0 0) []) := MkC.nil ((hg3.block _ (by omega) (by nofun)).trans G9.out) (by omega) (nLQ _)
  have HB3 := hJQ ((hg3.block _ (hLQ HB9.out) (by nofun)).trans HB9.out)
  have HR3 := hJQ ((hg3.block _ (hLQ HR9.out) (by nofun)).trans HR9.out)
  have HM3 := hJQ (HM9.out.grown hg3 (by nofun))
  have HG3 := hJQ (gBQ HG9.out (fNQ hg3 (some mb)))
  have HK3 : Hid (IsKind (fun b => w.heap.size + 1 < b/\Q3 w3.heap.size R9 mb b) w3 (.mk (.slice da ld.length dc) ld)/\pK (.mk (.slice da ld.length dc) ld) = pK k) := ⟨(HK9.out.1.grown hg3 (by nofun)).mono (fun b hb hlt => ⟨hb.1, hlt, hb.2, by have := hb.1; omega⟩), HK9.out.2⟩
  have HN3 : Hid (RowP (fun b => w.heap.size + 1 < b/\Q3 w3.heap.size R9 mb b) w3 (.slice qa ns.length qc) ns.length (strCells ns)) := (HN9.out.grown hg3 (by nofun)).mono (fun b hb hlt => ⟨hb.1, hlt, hb.2, by have := hb.1; omega⟩)
  have hlt3 : R9 < w3.heap.size/\w.heap.size + 1 < w3.heap.size := ⟨by omega, by omega⟩
  obtain ⟨c30, c31, c32, c33, c34, c35⟩ := cnQ HB3.out
  have hwd : IntKind.i64.wrap (d + 1) = d + 1 := wrap_ok _ (by omega) (by omega)
  clear c0 c1 c2 c3 c4 c5 HBi hg9 hg3 hb3 G9 HB9 HR9 HM9 HG9 HK9 HN9
  cases bb
  case' false => obtain rfl : D = d := HD9.out.symm
  case' true => have HDD : Hid (d + 1 = D) := HD9.out
  all_goals
   clear HD9
   go_wp2_with fail
   try rw [HDD.out]
   go_loopw [72] (fun i wr => ∃ (cv : Value) (ds : List ConD) (lj : Int), ds.length<=l.length/\i = .int .i64 ds.length/\-30000<=lj/\lj<=20000/\Hid (MkC (fun b => w.heap.size + 1 < b) wr w3.heap.size R9 (.int .i64 op) (.int .i64 n) (.string s) (.slice da ld.length dc) (.slice qa ns.length qc) cv ds)/\Hid (MkAt wr mb g lb lj)/\Hid (Kept (Q3 w3.heap.size R9 mb) w3 wr)/\Hid (w.grownBy wr (some mb))/\Hid (((sizeCL (((l.map pC).take ds.length).map (rebC f D)) : Int)<=left - 1->ds.map pC = ((l.map pC).take ds.length).map (rebC f D)/\lj = left - 1 - sizeCL (((l.map pC).take ds.length).map (rebC f D)))/\(¬ (sizeCL (((l.map pC).take ds.length).map (rebC f D)) : Int)<=left - 1->lj < 0))) (fun i _ => l.length - (intOf i).toNat)
   case atStart => exact ⟨.slice none 0 0, [], left - 1, Nat.zero_le _, rfl, by omega, by omega, HC3, HM3, Kept.refl _ _, HG3, fun _ => ⟨rfl, by show left - 1 = left - 1 - ((sizeCL [] : Nat) : Int); rw [sizeCL_nil]; omega⟩, fun hh => by exfalso; apply hh; show ((sizeCL [] : Nat) : Int)<=left - 1; rw [sizeCL_nil]; omega⟩
   case round =>
    rename World => V
    obtain ⟨cv, ds, lj, hj, rfl, hlj0, hlj1, HM, HMk, HKp, HG, HInv⟩ := hrel
    obtain ⟨oa, oc, hcv⟩ := HM.out.slice
    subst hcv
    have hltV := HM.out.lt
    have hown := HM.out.own
    by_cases hjl : ds.length < l.length
    ·have HP := hJQ HHH.out.parts
     have HV : Hid (Kept P w V) := ⟨HG.out.size, fun b hp hlt => HG.out.block b hlt (fun e => by have e2 : b = mb := oJQ e; rw [e2] at hp; exact hP hp)⟩
     have hjl0 := hjl
     obtain ⟨b, off, yop, yn, ys, yk, yns, yl, yka, ykn, ykc, yna, ync, ya, yc, fd, hbl, hq, hy, hmem, hv, HT, e0, e1, e2, e3, e4, e5⟩ := part_at (HV.out.row HP.out.row) (fun y hy => HV.out.con (HP.out.all y hy)) ds.length hjl
     subst fd
     have HT := hJQ HT
     obtain ⟨f0, f1, f2, f3, f4, f5⟩ := cnQ (nHQ V (.cells #[.int .i64 yop, .int .i64 yn, .string ys, .slice yka ykn ykc, .slice yna yns.length ync, .slice ya yl.length yc] 28))
     have hgX := gAQ V (.cells #[.int .i64 yop, .int .i64 yn, .string ys, .slice yka ykn ykc, .slice yna yns.length ync, .slice ya yl.length yc] 28)
     have HMX := hJQ (HM.out.grown hgX (by nofun))
     obtain ⟨x0, x1, x2, x3, x4, x5⟩ := cnQ HMX.out.cell
     have hszX : (V.alloc (.cells #[.int .i64 yop, .int .i64 yn, .string ys, .slice yka ykn ykc, .slice yna yns.length ync, .slice ya yl.length yc] 28)).heap.size = V.heap.size + 1 := by simp
     have hm' : pC (.mk yop yn ys yk (.slice yna yns.length ync) yns (.slice ya yl.length yc) yl) ∈ l.map pC := List.mem_map_of_mem hmem
     have HC : Hid (∀ W', (V.alloc (.cells #[.int .i64 yop, .int .i64 yn, .string ys, .slice yka ykn ykc, .slice yna yns.length ync, .slice ya yl.length yc] 28)).grownBy W' none->Calls Tryz.prog 71 #[.pointer (some ⟨mb, 0, none⟩), (.agg #[.int .i64 yop, .int .i64 yn, .string ys, .slice yka ykn ykc, .slice yna yns.length ync, .slice ya yl.length yc]), .int .i64 D] W' (RebOk mb g lb (rebC f D (pC (.mk yop yn ys yk (.slice yna yns.length ync) yns (.slice ya yl.length yc) yl))) lj W')) := fun W' hW' => by
      have hgg := gBQ hgX hW'
      have := HI.out _ hmem W' lj D ⟨gBQ HW0.out (gBQ HG.out (fNQ hgg _)), hy.grown hgg (by nofun), HFS.out.2.2.2.1 _ hm', by have := sLQ _ _ hm'; omega, HMk.out.grown hgg (by nofun), hlj0, hlj1, by omega, by have := dGQ _ _ hm'; omega⟩
      rw [hv] at this
      exact this
     have HTL : Hid (((l.map pC).take (ds.length + 1)).map (rebC f D) = ((l.map pC).take ds.length).map (rebC f D) ++ [rebC f D (pC (.mk yop yn ys yk (.slice yna yns.length ync) yns (.slice ya yl.length yc) yl))]) := by show _ = _; rw [HT.out, List.map_append]; rfl
     clear hy hmem hv hq hm' HV HP HT
     generalize rebC f D (pC (.mk yop yn ys yk (.slice yna yns.length ync) yns (.slice ya yl.length yc) yl)) = T at *
     obtain ⟨ii0, hii, hiz0, hiz1, hiz2⟩ := info_parts info_con
     go_upto_region 15 with fail
     generalize V.alloc (.cells #[.int .i64 yop, .int .i64 yn, .string ys, .slice yka ykn ykc, .slice yna yns.length ync, .slice ya yl.length yc] 28) = VX at *
     have hVXlt := HMX.out.lt
     go_region_law
      (first
        | (fail_if_success (have guard9 := hgy)
           go_simp; go_at_call 71
           refine (HC.out _ (gDQ VX)).mono ?_
           rintro e w1 ⟨dd, l1, rfl, hdd, hm1, hgy, hz0, hz1, hyes, hno⟩
           have hg9 : VX.grownBy w1 (some mb) := gBQ (fNQ (gDQ VX) _) hgy
           have HM1 := hJQ (HMX.out.grown hg9 (fun q hq => by have e2 : mb = q := oJQ hq; subst e2; exact ⟨by omega, by omega, fun e => by have := (HMX.out.own.lt _ e).1; omega⟩))
           obtain ⟨y20, y21, y22, y23, y24, y2⟩ := cnQ HM1.out.cell
           obtain ⟨zop, zn, zs, zk, zns, zl, zka, zkn, zkc, zna, znc, za, zc, hde, hzk, _⟩ := cSQ hdd
           subst hde
           have HD := hJQ hdd
           have hzz := hz0
           rw [cVQ hzk]
           have y3 := (World.cell?_of_block (a := ⟨R9, 5, none⟩) ((gAQ w1 (.cells #[.int .i64 zop, .int .i64 zn, .string zs, .slice zka zkn zkc, .slice zna zns.length znc, .slice za zl.length zc] 28)).block R9 (by have := HM1.out.lt; omega) (by nofun))).trans y2)
        | (have guard9 := hgy; clear guard9
           refine step_append_lies _ (by rfl) _ _ _ (by rfl) w3.heap.size 28 ii0 (.agg #[.int .i64 0, .int .i64 0, .string ⟨#[]⟩, .slice none 0 0, .slice none 0 0, .slice none 0 0]) 6 104 Tryz.underlying26 hii hiz0 hiz1 hiz2 (by rfl) (by decide) _ ds.length (cCQ ds) (by rfl) (HM1.out.own.alloc _) ⟨w1.heap.size, 0, none⟩ 1 1 [.int .i64 zop, .int .i64 zn, .string zs, .slice zka zkn zkc, .slice zna zns.length znc, .slice za zl.length zc] (by rfl) (by rfl) (World.news_of_block (cs := #[.int .i64 zop, .int .i64 zn, .string zs, .slice zka zkn zkc, .slice zna zns.length znc, .slice za zl.length zc]) (nHQ w1 _)) (by intro u hu; simp at hu; rcases hu with rfl | rfl | rfl | rfl | rfl | rfl <;> rfl) (by decide) (by unfold maxLen; omega) (by omega) (by have := HM1.out.lt; simp; omega) _ rfl ?_
           intro gN cN w4 hown4 hgrow4 hat4 hlt4
           have HK4 := hJQ ((hgrow4.block R9 (by have := HM1.out.lt; simp; omega) (fun e => by have := HM1.out.own.lt _ e.symm; omega)).trans (((gAQ w1 (.cells #[.int .i64 zop, .int .i64 zn, .string zs, .slice zka zkn zkc, .slice zna zns.length znc, .slice za zl.length zc] 28)).block R9 (by have := HM1.out.lt; omega) (by nofun)).trans HM1.out.cell))
           obtain ⟨y40, y41, y42, y43, y44, y4⟩ := cnQ HK4.out
           have fz4 : w4.frozen? ⟨R9, 5, none⟩ = false := Lib.frozen_of_heap HK4.out 5))
     all_goals
      have hgA := gAQ w1 (.cells #[.int .i64 zop, .int .i64 zn, .string zs, .slice zka zkn zkc, .slice zna zns.length znc, .slice za zl.length zc] 28)
      have hgS := gSQ w4 R9 5 (.slice (some ⟨gN, 0, none⟩) (ds.length + 1) cN)
      have hownX := HMX.out.own
      have hce : cEQ (.mk zop zn zs zk (.slice zna zns.length znc) zns (.slice za zl.length zc) zl) = [.int .i64 zop, .int .i64 zn, .string zs, .slice zka zkn zkc, .slice zna zns.length znc, .slice za zl.length zc] := by show [_, _, _, zk.v, _, _] = _; rw [hzk]; rfl
      rw [← hce] at hown4
      have hMK := HM1.out.push (y := .mk zop zn zs zk (.slice zna zns.length znc) zns (.slice za zl.length zc) zl) (HD.out.mono (fun b hb _ => ⟨⟨by have hb : VX.heap.size<=b := hb; omega, by have hb : VX.heap.size<=b := hb; omega⟩, fun e => by have hb : VX.heap.size<=b := hb; have := (hownX.lt b e).2; omega⟩)) hown4 hgrow4 hat4
      have hB1 := HM1.out.lt
      have hs1 := hg9.size
      have hs4 := hgrow4.size
      have hsA := hgA.size
      have hM4 : MkAt (w4.setCell ⟨R9, 5, none⟩ (.slice (some ⟨gN, 0, none⟩) (ds.length + 1) cN)) mb g lb l1 := ((hm1.grown hgA (by nofun)).grown hgrow4 (fun e => by have := (HM1.out.own.lt _ e).1; omega)).grown hgS (fun e => by have e2 : R9 = mb := oJQ e; omega)
      have hG4 : w.grownBy (w4.setCell ⟨R9, 5, none⟩ (.slice (some ⟨gN, 0, none⟩) (ds.length + 1) cN)) (some mb) := gOQ (grown_more (gBQ (gBQ (gBQ HG.out (fNQ hgX _)) hg9) (fNQ hgA _)) hgrow4 (fun q hq => by have := (HM1.out.own.lt q hq).1; omega)) hgS (by omega)
      have hK4 : Kept (Q3 w3.heap.size R9 mb) w3 (w4.setCell ⟨R9, 5, none⟩ (.slice (some ⟨gN, 0, none⟩) (ds.length + 1) cN)) := ((((HKp.out.trans (Kept.of_grown hgX (by nofun))).trans (Kept.of_grown hg9 (fun q hq hp => hp.2.2 (oJQ hq).symm))).trans (Kept.of_grown hgA (by nofun))).trans (Kept.of_grown hgrow4 (fun q hq hp => by have := (HM1.out.own.lt q hq).1; have := hp.1; omega))).trans (Kept.of_grown hgS (fun q hq hp => hp.2.1 (oJQ hq).symm))
      have HZ := hJQ hMK
      have HZM := hJQ hM4
      have HZG := hJQ hG4
      have HZK := hJQ hK4
      have HZI : Hid (((sizeCL (((l.map pC).take (ds ++ [ConD.mk zop zn zs zk (.slice zna zns.length znc) zns (.slice za zl.length zc) zl]).length).map (rebC f D)) : Int)<=left - 1->(ds ++ [ConD.mk zop zn zs zk (.slice zna zns.length znc) zns (.slice za zl.length zc) zl]).map pC = ((l.map pC).take (ds ++ [ConD.mk zop zn zs zk (.slice zna zns.length znc) zns (.slice za zl.length zc) zl]).length).map (rebC f D)/\l1 = left - 1 - sizeCL (((l.map pC).take (ds ++ [ConD.mk zop zn zs zk (.slice zna zns.length znc) zns (.slice za zl.length zc) zl]).length).map (rebC f D)))/\(¬ (sizeCL (((l.map pC).take (ds ++ [ConD.mk zop zn zs zk (.slice zna zns.length znc) zns (.slice za zl.length zc) zl]).length).map (rebC f D)) : Int)<=left - 1->l1 < 0)) := by
       obtain ⟨v1, v2⟩ := HInv.out
       have hTp := sizeC_pos T
       show (_->_)/\(_->_)
       rw [List.length_append, show [ConD.mk zop zn zs zk (.slice zna zns.length znc) zns (.slice za zl.length zc) zl].length = 1 from rfl, HTL.out, sizeCL_snoc, List.map_append]
       refine ⟨fun hh => ?_, fun hh => ?_⟩
       ·obtain ⟨v3, v4⟩ := v1 (by omega)
        obtain ⟨v5, v6⟩ := hyes (by omega)
        refine ⟨?_, by omega⟩
        rw [v3, ← v5]; rfl
       ·by_cases hh2 : (sizeCL (((l.map pC).take ds.length).map (rebC f D)) : Int)<=left - 1
        ·obtain ⟨v3, v4⟩ := v1 hh2
         exact hno (by omega)
        ·have := v2 hh2
         exact hno (by omega)
      clear hMK hM4 hG4 hK4 hgA hgS hownX hown4 hgrow4 hat4 HM1 HMX HD hdd hm1 hgy hyes hno HInv HC hown hg9 hs1 hs4 hsA
      go_wp2_with fail
      go_roundw
      case rel => exact ⟨_, ds ++ [.mk zop zn zs zk (.slice zna zns.length znc) zns (.slice za zl.length zc) zl], l1, by rw [List.length_append]; exact hjl0, by rw [List.length_append]; go_num, hz0, hz1, HZ, HZM, HZK, HZG, HZI⟩
      case measure => simp [intOf]; omega
    ·have hjl' : Hid (ds.length = l.length) := by show _ = _; omega
     have hnot : ¬ (ds.length : Int) < l.length := by omega
     have kRV := HKp.out.heap (q := w.heap.size + 1) ⟨by omega, by omega, by omega⟩ HR3.out
     obtain ⟨x0, x1, x2, x3, x4, x5⟩ := cnQ HM.out.cell
     have hrow := gRQ V (w.heap.size + 1) #[.int .i64 op, .int .i64 n, .string s, .slice da ld.length dc, .slice qa ns.length qc, .slice oa ds.length oc]
     have HRF := hJQ (setRow_heap V (w.heap.size + 1) _ #[.int .i64 op, .int .i64 n, .string s, .slice da ld.length dc, .slice qa ns.length qc, .slice oa ds.length oc] _ _ kRV)
     have HMF := hJQ (HMk.out.grown hrow (by intro e; have e2 : w.heap.size + 1 = mb := oJQ e; omega))
     have HGF := hJQ (gOQ HG.out hrow (by omega))
     have hgw : ∀ q, some (w.heap.size + 1) = some q->q = w.heap.size + 1 := fun q hq => (oJQ hq).symm
     have HDF : Hid (IsCon (fun b => w.heap.size<=b) (V.setRow (w.heap.size + 1) #[.int .i64 op, .int .i64 n, .string s, .slice da ld.length dc, .slice qa ns.length qc, .slice oa ds.length oc]) (.mk op n s (.mk (.slice da ld.length dc) ld) (.slice qa ns.length qc) ns (.slice oa ds.length oc) ds)) := by
      refine IsCon.mk ?_ ?_ (by have : maxLen = 9223372036854775807 := (by decide); have := HHH.out.parts.nlen; omega) ?_ (by have : maxLen = 9223372036854775807 := (by decide); omega) (fun y hy => ?_)
      ·exact (((HK3.out.1.keep HKp.out.1 (fun b hb hlt => HKp.out.2 b hb.2 hlt)).grown hrow (fun q hq hp => by have := hgw q hq; have := hp.1; omega))).mono (fun b hb _ => by have := hb.1; show w.heap.size<=b; omega)
      ·exact (((HN3.out.keep HKp.out.1 (fun b hb hlt => HKp.out.2 b hb.2 hlt)).grown hrow (fun q hq hp => by have := hgw q hq; have := hp.1; omega))).mono (fun b hb _ => by have := hb.1; show w.heap.size<=b; omega)
      ·exact ((rowP_owns (P := fun b => w3.heap.size<=b) hown (fun b hb => hb)).grown hrow (fun q hq hp => by have := hgw q hq; have hp : w3.heap.size<=q := hp; omega)).mono (fun b hb _ => by have hb : w3.heap.size<=b := hb; show w.heap.size<=b; omega)
      ·exact ((HM.out.els y hy).grown hrow (fun q hq hp => by have := hgw q hq; have := hp.1.1; omega)).mono (fun b hb _ => by have := hb.1.1; show w.heap.size<=b; omega)
     have HE : Hid (((sizeC (.mk op n s (pK k) ns ((l.map pC).map (rebC f D))) : Int)<=left->pC (.mk op n s (.mk (.slice da ld.length dc) ld) (.slice qa ns.length qc) ns (.slice oa ds.length oc) ds) = .mk op n s (pK k) ns ((l.map pC).map (rebC f D))/\lj = left - sizeC (.mk op n s (pK k) ns ((l.map pC).map (rebC f D))))/\(¬ (sizeC (.mk op n s (pK k) ns ((l.map pC).map (rebC f D))) : Int)<=left->lj < 0)) := by
      obtain ⟨v1, v2⟩ := HInv.out
      rw [hjl'.out, take_all] at v1 v2
      rw [sMQ, pMQ, HK3.out.2]
      refine ⟨fun hh => ?_, fun hh => v2 (by omega)⟩
      obtain ⟨v3, v4⟩ := v1 (by omega)
      exact ⟨by rw [v3], by omega⟩
     clear hrow HInv HKp HG HMk hown
     go_wp2_with (refine wpList_store_row rfl 28 _ _ rfl (w.heap.size + 1) _ rfl rfl 28 _ kRV cIQ rfl (all_one _ rfl) ?_)
     refine bodyPost_ret (results_cell_row rfl _ _ (w.heap.size + 1) 28 #[.int .i64 op, .int .i64 n, .string s, .slice da ld.length dc, .slice qa ns.length qc, .slice oa ds.length oc] (0, 0) _ rfl HRF.out Tryz.underlying28 rfl cIQ) rfl ?_
     exact ⟨_, lj, rfl, HDF.out, HMF.out, HGF.out, hlj0, hlj1, by first | exact HE.out.1 | (rw [← List.map_map]; exact HE.out.1), by first | exact HE.out.2 | (rw [← List.map_map]; exact HE.out.2) | (rw [← List.map_map]; intro hh; exact HE.out.2 (by omega)) | (intro hh; exact HE.out.2 (by omega))⟩
end Go.Proofs.YtkiffgdinmpljaaGreatDoor
