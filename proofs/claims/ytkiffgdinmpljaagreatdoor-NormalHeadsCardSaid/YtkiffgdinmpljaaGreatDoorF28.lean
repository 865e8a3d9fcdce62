/- The reference's grown, Grown. Printed by gen_rgrown.py, expanded by mac.py. -/
import Derived.Test.YtkiffgdinmpljaaGreatDoorF27
set_option linter.unusedVariables false
set_option linter.unusedSimpArgs false
namespace Go.Proofs.YtkiffgdinmpljaaGreatDoor
open Go Go.RowKit
set_option maxHeartbeats 8000000
set_option maxRecDepth 100000
mutual
def grownC (sz : Nat) (d : Nat) : Cn->Nat
 | .mk op n _ _ _ l => if op = 1/\n = (d : Int) then sz else grownCL sz (deepC op d) l + 1
def grownCL (sz : Nat) (d : Nat) : List Cn->Nat
 | [] => 0
 | x :: r => grownC sz d x + grownCL sz d r
end
theorem grownC_mk (sz d : Nat) (op n : Int) (s : ByteArray) (k : Kd) (ns : List ByteArray) (l : List Cn) : grownC sz d (.mk op n s k ns l) = if op = 1/\n = (d : Int) then sz else grownCL sz (deepC op d) l + 1 := by rw [grownC]
theorem grownCL_snoc (sz d : Nat) (x : Cn) : ∀ l : List Cn, grownCL sz d (l ++ [x]) = grownCL sz d l + grownC sz d x
 | [] => by simp [grownCL]
 | y :: r => by rw [List.cons_append, grownCL, grownCL, grownCL_snoc sz d x r]; omega
theorem grown_le (sz : Nat) : ∀ (c : Cn) (d : Nat), grownC sz d c<=sizeC c * (sz + 1) := by
 refine Cn.ind (fun op n s k ns l ih d => ?_)
 rw [grownC_mk, sMQ]
 have hL : ∀ (q : List Cn) (e : Nat), (∀ x ∈ q, ∀ d, grownC sz d x<=sizeC x * (sz + 1))->grownCL sz e q<=sizeCL q * (sz + 1) := fun q e hq => by
  induction q with
  | nil => rw [grownCL]; omega
  | cons x r ihr =>
    rw [grownCL, sizeCL_cons, Nat.add_mul]
    have h1 := hq x (by simp) e
    have h2 := ihr (fun x hx => hq x (by simp [hx]))
    omega
 have h1 := hL l (deepC op d) ih
 rw [Nat.add_mul]
 split <;> omega
theorem grown_take (sz : Nat) (d : Nat) (l : List Cn) (j : Nat) : grownCL sz d (l.take j)<=grownCL sz d l := by
 induction l generalizing j with
 | nil => simp
 | cons x r ih => cases j with
   | zero => simp [grownCL]
   | succ j => rw [List.take_succ_cons, grownCL, grownCL]; have := ih j; omega
theorem sizeC_var (n : Int) : sizeC (varC n) = 1 := by unfold varC; rw [sMQ, sizeCL_nil]
theorem grown_subst (A : Cn) (hA : frmC A = true) : ∀ (c : Cn) (d : Nat), frmC c = true->grownC (sizeC A) d c = sizeC (sC9 [A] d c) := by
 refine Cn.ind (fun op n s k ns l ih d hf => ?_)
 have hfs := fSQ hf
 rw [grownC_mk, substC_mk]
 by_cases hop : op = 1
 ·subst hop
  obtain rfl : l = [] := hfs.2.2.2.2 (.inl rfl)
  rw [if_pos (rfl : (1 : Int) = 1)]
  by_cases hn : n = (d : Int)
  ·subst hn
   rw [if_pos ⟨rfl, rfl⟩, if_neg (by omega), if_pos (by simp), show (List.getD [A] ((d : Int) - (d : Int)).toNat default) = A from by rw [Int.sub_self]; rfl, shift_size _ _ _ hA]
  ·rw [if_neg (fun h => hn h.2), grownCL]
   split
   ·rw [sMQ, sizeCL_nil]
   ·rw [if_neg (by show ¬ n - (d : Int) < ((1 : Nat) : Int); omega), sizeC_var]
 ·rw [if_neg (fun h => hop h.1), if_neg hop, sMQ]
  have hL : ∀ (q : List Cn) (e : Nat), (∀ x ∈ q, ∀ d, frmC x = true->grownC (sizeC A) d x = sizeC (sC9 [A] d x))->(∀ x ∈ q, frmC x = true)->grownCL (sizeC A) e q = sizeCL (q.map (sC9 [A] e)) := fun q e hq hqf => by
   induction q with
   | nil => rw [grownCL, List.map_nil, sizeCL_nil]
   | cons x r ihr => rw [grownCL, List.map_cons, sizeCL_cons, hq x (by simp) e (hqf x (by simp)), ihr (fun x hx => hq x (by simp [hx])) (fun x hx => hqf x (by simp [hx]))]
  rw [hL l (deepC op d) ih hfs.2.2.2.1]
theorem rgrown_any : ∀ (x : ConD) (P : Nat->Prop) (w : World) (sb soff sc sz d : Nat), IsCon P w x->frmC (pC x) = true->sizeC (pC x)<=20000->sz<=20000->sb < w.heap.size->w.cell? ⟨sb, soff, none⟩ = some (.int .i64 sz)->d + dCQ (pC x)<=20001 →
 Calls Tryz.prog 73 #[conV x, .slice (some ⟨sb, soff, none⟩) 1 sc, .int .i64 d] w fun e w' => e = .returned (.int .i64 (grownC sz d (pC x) : Nat))/\Below w.heap.size w w' := by
 refine ConD.ind (fun op n s k nv ns lv l ih P w sb soff sc sz d h hf hsz hs0 hsb hsc hfd => ?_)
 have hgl := grown_le sz (pC (.mk op n s k nv ns lv l)) d
 have hgm : sizeC (pC (.mk op n s k nv ns lv l)) * (sz + 1)<=20000 * (sz + 1) := Nat.mul_le_mul_right _ hsz
 rw [pMQ] at hf hsz hfd hgl hgm ⊢
 have hfs := fSQ hf
 rw [sMQ] at hsz
 rw [depthC_mk] at hfd
 have h0 := h.lt
 obtain ⟨ka, kc, kn, na, nc, a, c, rfl, _, rfl, _, hks, hcv, hll, hnn, hb0, gC, hsz0, HP, HC0, c0, c1, c2, c3, c4, c5⟩ := open_box h
 rw [hcv]
 clear hcv
 have HPW := hJQ (cVQ (op := op) (n := n) (s := s) (nv := .slice na ns.length nc) (lv := .slice a l.length c) (ns := ns) (l := l) hks)
 have HI := hJQ ih
 have HFS := hJQ hfs
 have HX := hJQ h
 have HPw := hJQ h0.parts
 clear HP
 have s0 : (w.alloc (.cells #[.int .i64 op, .int .i64 n, .string s, .slice ka kn kc, .slice na ns.length nc, .slice a l.length c] 28)).cell? ⟨sb, soff, none⟩ = some (.int .i64 sz) := (World.cell?_of_block (a := ⟨sb, soff, none⟩) (hb0.block sb hsb)).trans hsc
 have HSC := hJQ hsc
 have HRE : Hid (∀ v, grownC sz d (.mk op n s (pK k) ns (l.map pC)) = v->Ending.returned (.int .i64 (v : Nat)) = Ending.returned (.int .i64 (grownC sz d (.mk op n s (pK k) ns (l.map pC)) : Nat))) := fun v hv => by rw [hv]
 by_cases hc : op = 1/\n = (d : Int)
 ·obtain ⟨rfl, rfl⟩ := hc
  have HE := hJQ (HRE.out sz (by rw [grownC_mk, if_pos ⟨rfl, rfl⟩]))
  have hz : IntKind.i64.wrap ((d : Int) - (d : Int)) = 0 := by rw [Int.sub_self]; rfl
  clear h0 h hks ih hf hfs HRE hgl hgm HI HFS HPw gC HC0 hsz0
  go_enter Tryz.func73, Tryz.ntmps73
  go_wp2_with fail
  go_ret
  exact ⟨HE.out, hb0⟩
 ·have hg1 : grownC sz d (.mk op n s (pK k) ns (l.map pC)) = grownCL sz (deepC op d) (l.map pC) + 1 := by rw [grownC_mk, if_neg hc]
  have HG1 := hJQ hg1
  have hgt := fun j => grown_take sz (deepC op d) (l.map pC) j
  rw [hg1] at hgl
  have HGT : Hid (∀ j, grownCL sz (deepC op d) ((l.map pC).take j)<=500000000) := fun j => by have := hgt j; omega
  by_cases hop : op = 1
  ·have hl0 : l = [] := List.map_eq_nil_iff.1 (hfs.2.2.2.2 (.inl hop))
   subst hop
   subst hl0
   have hn := hfs.2.2.1 (.inl rfl)
   have hwr : IntKind.i64.wrap (n - (d : Int)) = n - d := wrap_ok _ (by omega) (by omega)
   have hne : n ≠ (d : Int) := fun e => hc ⟨rfl, e⟩
   have HE := hJQ (HRE.out 1 (by rw [HG1.out]; rfl))
   clear h0 h hks ih hf hfs HRE hgl hgm HI HFS HPw gC HC0 hsz0 hgt HG1 HGT hg1 hc
   rcases Int.lt_or_gt_of_ne hne with hlt | hgt
   all_goals
    go_enter Tryz.func73, Tryz.ntmps73
    try have hlt1 : ¬ n - (d : Int) < 1 := by omega
    go_wp2_with fail
    go_loopw [7, 8] (fun q i wr => q = .int .i64 1/\i = .int .i64 0/\wr = w.alloc (.cells #[.int .i64 1, .int .i64 n, .string s, .slice ka kn kc, .slice na ns.length nc, .slice a 0 c] 28)) (fun _ _ _ => 0)
    case atStart => exact ⟨rfl, rfl, rfl⟩
    case round =>
     obtain ⟨rfl, rfl, rfl⟩ := hrel
     go_wp2_with fail
     go_ret
     exact ⟨HE.out, hb0⟩
  ·have hop0 : (op == 1) = false := nEQ hop
   have hn0 : ∀ q : Int, q = q := fun _ => rfl
   have HDp : Hid (∀ V, Below w.heap.size w V->Calls Tryz.prog 100 #[(.agg #[.int .i64 op, .int .i64 n, .string s, .slice ka kn kc, .slice na ns.length nc, .slice a l.length c]), .int .i64 (d : Nat)] V fun e w' => e = .returned (.int .i64 (dpI op d))/\Below V.heap.size V w') := fun V hV => by
    have := rdeep_any P _ (d : Nat) V (iBQ HX.out hV) (by omega) (by omega)
    rw [HPW.out] at this
    exact this
   have hll2 : l.length<=1000000 := by
    have : ∀ q : List Cn, q.length<=sizeCL q := fun q => by
     induction q with
     | nil => simp
     | cons x r ih => rw [sizeCL_cons, List.length_cons]; have := sizeC_pos x; omega
    have := this (l.map pC)
    rw [List.length_map] at this
    omega
   clear h0 h hks ih hf hfs hgl hgm HC0 hgt hg1 hn0
   go_enter Tryz.func73, Tryz.ntmps73
   go_wp2_with fail
   have hsW : (w.alloc (.cells #[.int .i64 op, .int .i64 n, .string s, .slice ka kn kc, .slice na ns.length nc, .slice a l.length c] 28)).heap.size = w.heap.size + 1 := hsz0
   generalize w.alloc (.cells #[.int .i64 op, .int .i64 n, .string s, .slice ka kn kc, .slice na ns.length nc, .slice a l.length c] 28) = W at *
   clear c0 c1 c2 c3 c4 c5 s0
   go_loopw [7, 8] (fun q i wr => ∃ (j : Nat), j<=l.length/\q = .int .i64 (((grownCL sz (deepC op d) ((l.map pC).take j) : Nat) : Int) + 1)/\i = .int .i64 j/\Below W.heap.size W wr) (fun _ i _ => l.length - (intOf i).toNat)
   case atStart => exact ⟨0, Nat.zero_le _, rfl, rfl, Below.refl _ _⟩
   case round =>
    rename World => V
    obtain ⟨j, hj, rfl, rfl, hbV⟩ := hrel
    have hbwV := hb0.trans (hbV.mono hb0.size)
    have gV := (hbV.block _ (hLQ gC)).trans gC
    by_cases hjl : j < l.length
    ·have HV : Hid (Kept (fun b => P b/\b < w.heap.size) w V) := Kept.of_below hbwV
     obtain ⟨b, off, yop, yn, ys, yk, yns, yl, yka, ykn, ykc, yna, ync, ya, yc', fd, hbl, hq, hy, hmem, hv, HT, e0, e1, e2, e3, e4, e5⟩ := part_at (HV.out.row HPw.out.row) (fun y hy => HV.out.con (HPw.out.all y hy)) j hjl
     subst fd
     have HT := hJQ HT
     have hm' : pC (.mk yop yn ys yk (.slice yna yns.length ync) yns (.slice ya yl.length yc') yl) ∈ l.map pC := List.mem_map_of_mem hmem
     have HC : Hid (∀ W9, Below V.heap.size V W9->Calls Tryz.prog 73 #[(.agg #[.int .i64 yop, .int .i64 yn, .string ys, .slice yka ykn ykc, .slice yna yns.length ync, .slice ya yl.length yc']), .slice (some ⟨sb, soff, none⟩) 1 sc, .int .i64 (dpI op d)] W9 fun e w' => e = .returned (.int .i64 (grownC sz (deepC op d) (pC (.mk yop yn ys yk (.slice yna yns.length ync) yns (.slice ya yl.length yc') yl)) : Nat))/\Below W9.heap.size W9 w') := fun W9 hW9 => by
      have hbw9 := hbwV.trans (hW9.mono hbwV.size)
      have := HI.out _ hmem _ W9 sb soff sc sz (deepC op d) (iBQ hy hW9) (HFS.out.2.2.2.1 _ hm') (by have := sLQ _ _ hm'; omega) hs0 (by have := hbw9.size; omega) ((World.cell?_of_block (a := ⟨sb, soff, none⟩) (hbw9.block sb hsb)).trans HSC.out) (by have := deepC_le op d; have := dGQ _ _ hm'; omega)
      rw [hv, ← dpI_nat] at this
      exact this
     have hgj := HGT.out j
     have hgj1 := HGT.out (j + 1)
     have HTL : Hid (grownCL sz (deepC op d) ((l.map pC).take (j + 1)) = grownCL sz (deepC op d) ((l.map pC).take j) + grownC sz (deepC op d) (pC (.mk yop yn ys yk (.slice yna yns.length ync) yns (.slice ya yl.length yc') yl))) := by show _ = _; rw [HT.out, grownCL_snoc]
     rw [HTL.out] at hgj1
     have hdp := dpI_le op d
     obtain ⟨c0, c1, c2, c3, c4, c5⟩ := cnQ gV
     go_upto_region 7 with fail
     clear c0 c1 c2 c3 c4 c5 hy hv hmem hq HT hm'
     generalize pC (.mk yop yn ys yk (.slice yna yns.length ync) yns (.slice ya yl.length yc') yl) = py at *
     generalize grownCL sz (deepC op d) ((l.map pC).take j) = gj at *
     have hwr : IntKind.i64.wrap ((gj : Int) + 1 + ((grownC sz (deepC op d) py : Nat) : Int)) = (gj : Int) + 1 + ((grownC sz (deepC op d) py : Nat) : Int) := wrap_ok _ (by omega) (by omega)
     generalize grownC sz (deepC op d) py = gy at *
     have S0 : (fun w9 => w9.cell? ⟨w.heap.size, 0, none⟩ = some (.int .i64 op)/\w9.cell? ⟨w.heap.size, 1, none⟩ = some (.int .i64 n)/\w9.cell? ⟨w.heap.size, 2, none⟩ = some (.string s)/\w9.cell? ⟨w.heap.size, 3, none⟩ = some (.slice ka kn kc)/\w9.cell? ⟨w.heap.size, 4, none⟩ = some (.slice na ns.length nc)/\w9.cell? ⟨w.heap.size, 5, none⟩ = some (.slice (some ⟨b, off, none⟩) l.length c)/\w9.cell? ⟨b, off + j * 6, none⟩ = some (.int .i64 yop)/\w9.cell? ⟨b, off + j * 6 + 1, none⟩ = some (.int .i64 yn)/\w9.cell? ⟨b, off + j * 6 + 2, none⟩ = some (.string ys)/\w9.cell? ⟨b, off + j * 6 + 3, none⟩ = some (.slice yka ykn ykc)/\w9.cell? ⟨b, off + j * 6 + 4, none⟩ = some (.slice yna yns.length ync)/\w9.cell? ⟨b, off + j * 6 + 5, none⟩ = some (.slice ya yl.length yc')) V.drew := ⟨(cnQ gV).1, (cnQ gV).2.1, (cnQ gV).2.2.1, (cnQ gV).2.2.2.1, (cnQ gV).2.2.2.2.1, (cnQ gV).2.2.2.2.2, e0, e1, e2, e3, e4, e5⟩
     have hbD : Below V.heap.size V V.drew := (Below.refl _ _).drew
     refine wp_region_held_drew (S := (fun w9 => w9.cell? ⟨w.heap.size, 0, none⟩ = some (.int .i64 op)/\w9.cell? ⟨w.heap.size, 1, none⟩ = some (.int .i64 n)/\w9.cell? ⟨w.heap.size, 2, none⟩ = some (.string s)/\w9.cell? ⟨w.heap.size, 3, none⟩ = some (.slice ka kn kc)/\w9.cell? ⟨w.heap.size, 4, none⟩ = some (.slice na ns.length nc)/\w9.cell? ⟨w.heap.size, 5, none⟩ = some (.slice (some ⟨b, off, none⟩) l.length c)/\w9.cell? ⟨b, off + j * 6, none⟩ = some (.int .i64 yop)/\w9.cell? ⟨b, off + j * 6 + 1, none⟩ = some (.int .i64 yn)/\w9.cell? ⟨b, off + j * 6 + 2, none⟩ = some (.string ys)/\w9.cell? ⟨b, off + j * 6 + 3, none⟩ = some (.slice yka ykn ykc)/\w9.cell? ⟨b, off + j * 6 + 4, none⟩ = some (.slice yna yns.length ync)/\w9.cell? ⟨b, off + j * 6 + 5, none⟩ = some (.slice ya yl.length yc'))) (by kernel_rfl) S0 (fun hHeld => ?_)
     refine tks (b := ?_) (by kernel_rfl) (fun _ _ _ _ _ h => h) S0 9 [0, 1, 2, 3, 4, 5, 6, 7, 8] (by kernel_rfl) ?_ ?_
     rotate_left
     ·iterate 9 (refine yc (v := ?_) rfl rfl (by rfl) (fun w9 hSw => ?_) ?_; rotate_left; (focus go_simp; try rfl); simp only [Act.put, l1Q, l2Q, l3Q])
      exact rfl
     refine rd1 9 (by kernel_rfl) (by rfl) (fun K hK => ?_)
     go_simp
     go_at_call 100
     refine (HDp.out _ (hbwV.trans (hbD.mono hbwV.size))).mono ?_
     rintro e w1 ⟨rfl, hb1⟩
     have hbV1 := hbD.trans (hb1.mono hbD.size)
     have gB1 := (hbV1.block _ (hLQ gV)).trans gV
     have S1 : (fun w9 => w9.cell? ⟨w.heap.size, 0, none⟩ = some (.int .i64 op)/\w9.cell? ⟨w.heap.size, 1, none⟩ = some (.int .i64 n)/\w9.cell? ⟨w.heap.size, 2, none⟩ = some (.string s)/\w9.cell? ⟨w.heap.size, 3, none⟩ = some (.slice ka kn kc)/\w9.cell? ⟨w.heap.size, 4, none⟩ = some (.slice na ns.length nc)/\w9.cell? ⟨w.heap.size, 5, none⟩ = some (.slice (some ⟨b, off, none⟩) l.length c)/\w9.cell? ⟨b, off + j * 6, none⟩ = some (.int .i64 yop)/\w9.cell? ⟨b, off + j * 6 + 1, none⟩ = some (.int .i64 yn)/\w9.cell? ⟨b, off + j * 6 + 2, none⟩ = some (.string ys)/\w9.cell? ⟨b, off + j * 6 + 3, none⟩ = some (.slice yka ykn ykc)/\w9.cell? ⟨b, off + j * 6 + 4, none⟩ = some (.slice yna yns.length ync)/\w9.cell? ⟨b, off + j * 6 + 5, none⟩ = some (.slice ya yl.length yc')) w1 := ⟨(cnQ gB1).1, (cnQ gB1).2.1, (cnQ gB1).2.2.1, (cnQ gB1).2.2.2.1, (cnQ gB1).2.2.2.2.1, (cnQ gB1).2.2.2.2.2, (World.cell?_of_block (a := ⟨b, off + j * 6, none⟩) (hbV1.block b hbl)).trans e0, (World.cell?_of_block (a := ⟨b, off + j * 6 + 1, none⟩) (hbV1.block b hbl)).trans e1, (World.cell?_of_block (a := ⟨b, off + j * 6 + 2, none⟩) (hbV1.block b hbl)).trans e2, (World.cell?_of_block (a := ⟨b, off + j * 6 + 3, none⟩) (hbV1.block b hbl)).trans e3, (World.cell?_of_block (a := ⟨b, off + j * 6 + 4, none⟩) (hbV1.block b hbl)).trans e4, (World.cell?_of_block (a := ⟨b, off + j * 6 + 5, none⟩) (hbV1.block b hbl)).trans e5⟩
     refine hK.out _ _ S1 (fun _ => ?_)
     clear hK K
     refine rd1 10 (by kernel_rfl) (by rfl) (fun K hK => ?_)
     go_simp
     go_at_call 73
     refine (HC.out _ hbV1).mono ?_
     rintro e w2 ⟨rfl, hb2⟩
     have hbV2 := hbV1.trans (hb2.mono hbV1.size)
     have gB2 := (hbV2.block _ (hLQ gV)).trans gV
     have S2 : (fun w9 => w9.cell? ⟨w.heap.size, 0, none⟩ = some (.int .i64 op)/\w9.cell? ⟨w.heap.size, 1, none⟩ = some (.int .i64 n)/\w9.cell? ⟨w.heap.size, 2, none⟩ = some (.string s)/\w9.cell? ⟨w.heap.size, 3, none⟩ = some (.slice ka kn kc)/\w9.cell? ⟨w.heap.size, 4, none⟩ = some (.slice na ns.length nc)/\w9.cell? ⟨w.heap.size, 5, none⟩ = some (.slice (some ⟨b, off, none⟩) l.length c)/\w9.cell? ⟨b, off + j * 6, none⟩ = some (.int .i64 yop)/\w9.cell? ⟨b, off + j * 6 + 1, none⟩ = some (.int .i64 yn)/\w9.cell? ⟨b, off + j * 6 + 2, none⟩ = some (.string ys)/\w9.cell? ⟨b, off + j * 6 + 3, none⟩ = some (.slice yka ykn ykc)/\w9.cell? ⟨b, off + j * 6 + 4, none⟩ = some (.slice yna yns.length ync)/\w9.cell? ⟨b, off + j * 6 + 5, none⟩ = some (.slice ya yl.length yc')) w2 := ⟨(cnQ gB2).1, (cnQ gB2).2.1, (cnQ gB2).2.2.1, (cnQ gB2).2.2.2.1, (cnQ gB2).2.2.2.2.1, (cnQ gB2).2.2.2.2.2, (World.cell?_of_block (a := ⟨b, off + j * 6, none⟩) (hbV2.block b hbl)).trans e0, (World.cell?_of_block (a := ⟨b, off + j * 6 + 1, none⟩) (hbV2.block b hbl)).trans e1, (World.cell?_of_block (a := ⟨b, off + j * 6 + 2, none⟩) (hbV2.block b hbl)).trans e2, (World.cell?_of_block (a := ⟨b, off + j * 6 + 3, none⟩) (hbV2.block b hbl)).trans e3, (World.cell?_of_block (a := ⟨b, off + j * 6 + 4, none⟩) (hbV2.block b hbl)).trans e4, (World.cell?_of_block (a := ⟨b, off + j * 6 + 5, none⟩) (hbV2.block b hbl)).trans e5⟩
     refine hK.out _ _ S2 (fun _ => ?_)
     clear hK K
     refine rd1 11 (by kernel_rfl) (by rfl) (fun K hK => ?_)
     go_simp
     refine hK.out _ _ S2 (fun _ => ?_)
     clear hK K
     refine rd1 12 (by kernel_rfl) (by rfl) (fun K hK => ?_)
     go_simp
     refine hK.out _ _ S2 (fun _ => ?_)
     clear hK K
     refine wpAnyH_done (by kernel_rfl) ?_ _
     have HB2 := hJQ (hbV.trans (hbV2.mono hbV.size))
     have hgE : Hid (gj + 1 + gy = grownCL sz (deepC op d) ((l.map pC).take (j + 1)) + 1) := by show _ = _; rw [HTL.out]; omega
     clear hHeld S0 S1 S2 HC gB1 gB2 hb1 hb2 hbV1 hbV2 hbD HTL hwr
     go_wp2_with fail
     go_roundw
     case rel => exact ⟨j + 1, by omega, by have := hgE.out; congr 1; omega, by go_num, HB2.out⟩
     case measure => simp [intOf]; omega
    ·obtain rfl : j = l.length := by omega
     obtain ⟨c0, c1, c2, c3, c4, c5⟩ := cnQ gV
     have HE := hJQ (HRE.out (grownCL sz (deepC op d) ((l.map pC).take l.length) + 1) (by rw [HG1.out, take_all]))
     rw [show (((grownCL sz (deepC op d) ((l.map pC).take l.length) : Nat) : Int) + 1) = ((grownCL sz (deepC op d) ((l.map pC).take l.length) + 1 : Nat) : Int) from rfl]
     generalize grownCL sz (deepC op d) ((l.map pC).take l.length) + 1 = gg at *
     go_wp2_with fail
     go_ret
     exact ⟨HE.out, hbwV⟩
end Go.Proofs.YtkiffgdinmpljaaGreatDoor
