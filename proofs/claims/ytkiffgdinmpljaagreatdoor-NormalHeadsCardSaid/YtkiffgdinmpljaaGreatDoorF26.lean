/- The reference's Shift. Printed by gen_rshift.py, expanded by mac.py. -/
import Derived.Test.YtkiffgdinmpljaaGreatDoorF14
import Derived.Test.YtkiffgdinmpljaaGreatDoorF16
set_option linter.unusedVariables false
set_option linter.unusedSimpArgs false
namespace Go.Proofs.YtkiffgdinmpljaaGreatDoor
open Go Go.RowKit
set_option maxHeartbeats 8000000
set_option maxRecDepth 100000
theorem rshift_any : ∀ (x : ConD) (P : Nat->Prop) (w : World) (bI : Int) (f : Nat), (∀ b, w.heap.size<=b->P b)->IsCon P w x->frmC (pC x) = true->sizeC (pC x)<=1000000->-100000<=bI->bI<=100000->f + dCQ (pC x)<=20001 →
 Calls Tryz.prog 60 #[conV x, .int .i64 bI, .int .i64 f] w fun e w' => ConOut P (shiftC bI f (pC x)) e w'/\Below w.heap.size w w' := by
 refine ConD.ind (fun op n s k nv ns lv l ih P w bI f hP h hf hsz hi0 hi1 hfd => ?_)
 have hfr := hf
 rw [pMQ] at hf hsz hfd ⊢
 rw [shiftC_mk]
 have hfs := fSQ hf
 rw [sMQ] at hsz
 rw [depthC_mk] at hfd
 have h0 := h.lt
 obtain ⟨ka, kc, kn, na, nc, a, c, rfl, _, rfl, _, hks, hcv, hll, hnn, hb0, gC, hsz0, HP, HC0, c0, c1, c2, c3, c4, c5⟩ := open_box h
 rw [hcv]
 clear hcv
 obtain ⟨hg1, kR, kB, hszW⟩ := fo_box gC
 have hgW := gBQ (gAQ w (.cells #[.int .i64 op, .int .i64 n, .string s, .slice ka kn kc, .slice na ns.length nc, .slice a l.length c] 28)) hg1
 have hbW := gUQ (B := w.heap.size) hgW (nLQ _) (by nofun)
 have HPW := hJQ (cVQ (op := op) (n := n) (s := s) (nv := .slice na ns.length nc) (lv := .slice a l.length c) (ns := ns) (l := l) hks)
 have HI := hJQ ih
 have HFS := hJQ hfs
 have HX := hJQ h
 have HP := hJQ h0.parts
 have HPP := hJQ hP
 have HKS := hJQ hks
 by_cases hop : op = 1
 ·subst hop
  rw [if_pos rfl]
  have hn := hfs.2.2.1 (.inl rfl)
  have hwr : IntKind.i64.wrap (n + bI) = n + bI := wrap_ok _ (by omega) (by omega)
  by_cases hfn : (f : Int)<=n
  ·rw [if_pos hfn]
   have hmin : min (f : Int) 20001 = f := by omega
   clear c0 c1 c2 c3 c4 c5 hb0 gC HC0 hsz0 hg1 hf hfr hks ih h h0 hP hgW hfs hsz hfd HI HFS
   go_enter Tryz.func60, Tryz.ntmps60
   go_upto_region 1 with fail
   generalize ((w.alloc (.cells #[.int .i64 1, .int .i64 n, .string s, .slice ka kn kc, .slice na ns.length nc, .slice a l.length c] 28)).alloc (.cells #[.int .i64 0, .int .i64 0, .string ⟨#[]⟩, .slice none 0 0, .slice none 0 0, .slice none 0 0] 28)) = W at *
   obtain ⟨c0, c1, c2, c3, c4, c5⟩ := cnQ kB
   have hrow := gRQ W (w.heap.size + 1) #[.int .i64 1, .int .i64 (n + bI), .string ⟨#[]⟩, .slice none 0 0, .slice none 0 0, .slice none 0 0]
   have HRF := hJQ (setRow_heap W (w.heap.size + 1) _ #[.int .i64 1, .int .i64 (n + bI), .string ⟨#[]⟩, .slice none 0 0, .slice none 0 0, .slice none 0 0] _ _ kR)
   have HBF := hJQ (hbW.trans (gUQ (B := w.heap.size) hrow (by have := hbW.size; omega) (fun q hq => by have e2 : w.heap.size + 1 = q := oJQ hq; omega)))
   have HCF : Hid (IsCon P (W.setRow (w.heap.size + 1) #[.int .i64 1, .int .i64 (n + bI), .string ⟨#[]⟩, .slice none 0 0, .slice none 0 0, .slice none 0 0]) (ConD.mk 1 (n + bI) ⟨#[]⟩ (.mk (.slice none 0 0) []) (.slice none 0 0) [] (.slice none 0 0) [])/\pC (ConD.mk 1 (n + bI) ⟨#[]⟩ (.mk (.slice none 0 0) []) (.slice none 0 0) [] (.slice none 0 0) []) = varC (n + bI)) := ⟨.mk (kind_nil _ _) (RowP.nil _ _) (Nat.zero_le maxLen) (RowP.nil _ _) (Nat.zero_le maxLen) (fun y hy => by cases hy), by rw [pMQ, pureK_mk]; rfl⟩
   clear hrow
   go_wp2_with (refine wpList_store_row rfl 28 _ _ rfl (w.heap.size + 1) _ rfl rfl 28 _ kR cIQ rfl (all_one _ rfl) ?_)
   refine bodyPost_ret (results_cell_row rfl _ _ (w.heap.size + 1) 28 #[.int .i64 1, .int .i64 (n + bI), .string ⟨#[]⟩, .slice none 0 0, .slice none 0 0, .slice none 0 0] (0, 0) _ rfl HRF.out Tryz.underlying28 rfl cIQ) rfl ?_
   exact ⟨⟨(ConD.mk 1 (n + bI) ⟨#[]⟩ (.mk (.slice none 0 0) []) (.slice none 0 0) [] (.slice none 0 0) []), rfl, HCF.out.1, HCF.out.2⟩, HBF.out⟩
  ·rw [if_neg hfn]
   have hmin : min (f : Int) 20001 = f := by omega
   clear c0 c1 c2 c3 c4 c5 hb0 gC HC0 hsz0 hg1 hf hfr hks ih h h0 hP hgW hfs hsz hfd
   go_enter Tryz.func60, Tryz.ntmps60
   go_upto_region 1 with fail
   generalize ((w.alloc (.cells #[.int .i64 1, .int .i64 n, .string s, .slice ka kn kc, .slice na ns.length nc, .slice a l.length c] 28)).alloc (.cells #[.int .i64 0, .int .i64 0, .string ⟨#[]⟩, .slice none 0 0, .slice none 0 0, .slice none 0 0] 28)) = W at *
   obtain ⟨c0, c1, c2, c3, c4, c5⟩ := cnQ kB
   have hrow := gRQ W (w.heap.size + 1) #[.int .i64 1, .int .i64 n, .string s, .slice ka kn kc, .slice na ns.length nc, .slice a l.length c]
   have HRF := hJQ (setRow_heap W (w.heap.size + 1) _ #[.int .i64 1, .int .i64 n, .string s, .slice ka kn kc, .slice na ns.length nc, .slice a l.length c] _ _ kR)
   have HBF := hJQ (hbW.trans (gUQ (B := w.heap.size) hrow (by have := hbW.size; omega) (fun q hq => by have e2 : w.heap.size + 1 = q := oJQ hq; omega)))
   have HCF : Hid (IsCon P (W.setRow (w.heap.size + 1) #[.int .i64 1, .int .i64 n, .string s, .slice ka kn kc, .slice na ns.length nc, .slice a l.length c]) (ConD.mk 1 n s k (.slice na ns.length nc) ns (.slice a l.length c) l)/\pC (ConD.mk 1 n s k (.slice na ns.length nc) ns (.slice a l.length c) l) = Cn.mk 1 n s (pK k) ns (l.map pC)) := ⟨(((HX.out.lt.keep hbW.size (fun b _ hlt => hbW.block b hlt))).grown hrow (fun q hq hp => by have e2 : w.heap.size + 1 = q := oJQ hq; have := hp.2; omega)).mono (fun b hb _ => hb.1), pMQ ..⟩
   clear hrow
   go_wp2_with (refine wpList_store_row rfl 28 _ _ rfl (w.heap.size + 1) _ rfl rfl 28 _ kR cIQ rfl (all_one _ rfl) ?_)
   refine bodyPost_ret (results_cell_row rfl _ _ (w.heap.size + 1) 28 #[.int .i64 1, .int .i64 n, .string s, .slice ka kn kc, .slice na ns.length nc, .slice a l.length c] (0, 0) _ rfl HRF.out Tryz.underlying28 rfl cIQ) rfl ?_
   exact ⟨⟨(ConD.mk 1 n s k (.slice na ns.length nc) ns (.slice a l.length c) l), by rw [HPW.out], HCF.out.1, HCF.out.2⟩, HBF.out⟩
 ·rw [if_neg hop]
  have hop0 : (op == 1) = false := nEQ hop
  have HDp : Hid (∀ V, Below w.heap.size w V->Calls Tryz.prog 100 #[(.agg #[.int .i64 op, .int .i64 n, .string s, .slice ka kn kc, .slice na ns.length nc, .slice a l.length c]), .int .i64 (f : Nat)] V fun e w' => e = .returned (.int .i64 (dpI op f))/\Below V.heap.size V w') := fun V hV => by
   have := rdeep_any P _ (f : Nat) V (iBQ HX.out hV) (by omega) (by omega)
   rw [HPW.out] at this
   exact this
  have HIn : Hid (∀ V (ra : Option Addr) (rm rc : Nat), Below w.heap.size w V->Calls Tryz.prog 101 #[(.agg #[.int .i64 op, .int .i64 n, .string s, .slice ka kn kc, .slice na ns.length nc, .slice a l.length c]), .slice ra rm rc] V fun e w' => e = .returned (.agg #[.int .i64 op, .int .i64 n, .string s, .slice ka kn kc, .slice na ns.length nc, .slice ra rm rc])/\Below V.heap.size V w') := fun V ra rm rc hV => by
   have := rinside_any P _ ra rm rc V (iBQ HX.out hV)
   rw [HPW.out, show (ConD.mk op n s k (.slice na ns.length nc) ns (.slice a l.length c) l).k.v = k.v from rfl, HKS.out] at this
   exact this
  have hll2 : l.length<=1000000 := by
   have : ∀ q : List Cn, q.length<=sizeCL q := fun q => by
    induction q with
    | nil => simp
    | cons x r ih => rw [sizeCL_cons, List.length_cons]; have := sizeC_pos x; omega
   have := this (l.map pC)
   rw [List.length_map] at this
   omega
  have hmin : min (f : Int) 20001 = f := by omega
  obtain ⟨ii0, hii, hiz0, hiz1, hiz2⟩ := info_parts info_con
  clear c0 c1 c2 c3 c4 c5 hb0 gC HC0 hsz0 hg1 hf hfr hks ih h h0 hP hgW hfs
  go_enter Tryz.func60, Tryz.ntmps60
  go_upto_region 1 with fail
  generalize ((w.alloc (.cells #[.int .i64 op, .int .i64 n, .string s, .slice ka kn kc, .slice na ns.length nc, .slice a l.length c] 28)).alloc (.cells #[.int .i64 0, .int .i64 0, .string ⟨#[]⟩, .slice none 0 0, .slice none 0 0, .slice none 0 0] 28)) = W at *
  obtain ⟨c0, c1, c2, c3, c4, c5⟩ := cnQ kB
  go_wp2_with fail
  clear c0 c1 c2 c3 c4 c5
  go_loopw [7, 8] (fun lv9 i wr => ∃ (oa : Option Addr) (oc : Nat) (ds : List ConD), lv9 = .slice oa ds.length oc/\ds.length<=l.length/\i = .int .i64 ds.length/\Hid (LsC (fun b => P b/\b ≠ w.heap.size + 1) wr W.heap.size (.slice oa ds.length oc) ds)/\Hid (ds.map pC = ((l.map pC).take ds.length).map (shiftC bI (deepC op f)))/\Below W.heap.size W wr) (fun _ i _ => l.length - (intOf i).toNat)
  case atStart => exact ⟨none, 0, [], rfl, Nat.zero_le _, rfl, LsC.nil _ _ _ (nLQ _), rfl, Below.refl _ _⟩
  case round =>
   rename World => V
   obtain ⟨oa, oc, ds, rfl, hj, rfl, HLs, HEq, hbV⟩ := hrel
   have hbwV := hbW.trans (hbV.mono hbW.size)
   have gV := (hbV.block _ (hLQ kB)).trans kB
   obtain ⟨c0, c1, c2, c3, c4, c5⟩ := cnQ gV
   by_cases hjl : ds.length < l.length
   ·have HV : Hid (Kept (fun b => P b/\b < w.heap.size) w V) := Kept.of_below hbwV
    have hjl0 := hjl
    obtain ⟨b, off, yop, yn, ys, yk, yns, yl, yka, ykn, ykc, yna, ync, ya, yc', fd, hbl, hq, hy, hmem, hv, HT, e0, e1, e2, e3, e4, e5⟩ := part_at (HV.out.row HP.out.row) (fun y hy => HV.out.con (HP.out.all y hy)) ds.length hjl
    subst fd
    have hblw : b < w.heap.size := by
     obtain ⟨a9, c9, e9, _, hr9⟩ := HP.out.row
     obtain ⟨b9, off9, e8, hp9, _⟩ := hr9 (by omega)
     have e7 := (Value.slice.inj e9).1
     rw [e8] at e7
     injection e7 with e6
     injection e6 with e5
     rw [e5]; exact hp9.2
    have HTL : Hid (((l.map pC).take (ds.length + 1)).map (shiftC bI (deepC op f)) = ((l.map pC).take ds.length).map (shiftC bI (deepC op f)) ++ [shiftC bI (deepC op f) (pC (.mk yop yn ys yk (.slice yna yns.length ync) yns (.slice ya yl.length yc') yl))]) := by show _ = _; rw [HT, List.map_append]; rfl
    have hm' : pC (.mk yop yn ys yk (.slice yna yns.length ync) yns (.slice ya yl.length yc') yl) ∈ l.map pC := List.mem_map_of_mem hmem
    have HC : Hid (∀ W9, Below V.heap.size V W9->Calls Tryz.prog 60 #[(.agg #[.int .i64 yop, .int .i64 yn, .string ys, .slice yka ykn ykc, .slice yna yns.length ync, .slice ya yl.length yc']), .int .i64 bI, .int .i64 (dpI op f)] W9 fun e w' => ConOut (fun b => (P b/\b ≠ w.heap.size + 1)/\(Value.slice oa ds.length oc).ownBlock ≠ some b) (shiftC bI (deepC op f) (pC (.mk yop yn ys yk (.slice yna yns.length ync) yns (.slice ya yl.length yc') yl))) e w'/\Below W9.heap.size W9 w') := fun W9 hW9 => by
     have hbw9 := hbwV.trans (hW9.mono hbwV.size)
     have hs9 := hW9.size
     have := HI.out _ hmem (fun b => (P b/\b ≠ w.heap.size + 1)/\(Value.slice oa ds.length oc).ownBlock ≠ some b) W9 bI (deepC op f) (fun b hb => ⟨⟨HPP.out b (by have := hbw9.size; omega), by have := hbV.size; omega⟩, fun e => by have := (HLs.out.own.lt b e).2; omega⟩) (((hy.keep hW9.size (fun b _ hlt => hW9.block b hlt))).mono (fun b hb _ => ⟨⟨hb.1, by have := hb.2; omega⟩, fun e => by have h1 := hb.2; have := (HLs.out.own.lt b e).1; omega⟩)) (HFS.out.2.2.2.1 _ hm') (by have := sLQ _ _ hm'; omega) hi0 hi1 (by have := deepC_le op f; have := dGQ _ _ hm'; omega)
     rw [hv, ← dpI_nat] at this
     exact this
    have hdp := dpI_le op f
    go_upto_region 10 with fail
    clear c0 c1 c2 c3 c4 c5 hy hv hmem hq HT hm'
    generalize pC (.mk yop yn ys yk (.slice yna yns.length ync) yns (.slice ya yl.length yc') yl) = py at *
    have gD := gV
    have S0 : (fun w9 => w9.cell? ⟨w.heap.size, 0, none⟩ = some (.int .i64 op)/\w9.cell? ⟨w.heap.size, 1, none⟩ = some (.int .i64 n)/\w9.cell? ⟨w.heap.size, 2, none⟩ = some (.string s)/\w9.cell? ⟨w.heap.size, 3, none⟩ = some (.slice ka kn kc)/\w9.cell? ⟨w.heap.size, 4, none⟩ = some (.slice na ns.length nc)/\w9.cell? ⟨w.heap.size, 5, none⟩ = some (.slice (some ⟨b, off, none⟩) l.length c)/\w9.cell? ⟨b, off + ds.length * 6, none⟩ = some (.int .i64 yop)/\w9.cell? ⟨b, off + ds.length * 6 + 1, none⟩ = some (.int .i64 yn)/\w9.cell? ⟨b, off + ds.length * 6 + 2, none⟩ = some (.string ys)/\w9.cell? ⟨b, off + ds.length * 6 + 3, none⟩ = some (.slice yka ykn ykc)/\w9.cell? ⟨b, off + ds.length * 6 + 4, none⟩ = some (.slice yna yns.length ync)/\w9.cell? ⟨b, off + ds.length * 6 + 5, none⟩ = some (.slice ya yl.length yc')) V.drew := ⟨(cnQ gD).1, (cnQ gD).2.1, (cnQ gD).2.2.1, (cnQ gD).2.2.2.1, (cnQ gD).2.2.2.2.1, (cnQ gD).2.2.2.2.2, e0, e1, e2, e3, e4, e5⟩
    have hbD : Below V.heap.size V V.drew := (Below.refl _ _).drew
    refine wp_region_held_drew (S := (fun w9 => w9.cell? ⟨w.heap.size, 0, none⟩ = some (.int .i64 op)/\w9.cell? ⟨w.heap.size, 1, none⟩ = some (.int .i64 n)/\w9.cell? ⟨w.heap.size, 2, none⟩ = some (.string s)/\w9.cell? ⟨w.heap.size, 3, none⟩ = some (.slice ka kn kc)/\w9.cell? ⟨w.heap.size, 4, none⟩ = some (.slice na ns.length nc)/\w9.cell? ⟨w.heap.size, 5, none⟩ = some (.slice (some ⟨b, off, none⟩) l.length c)/\w9.cell? ⟨b, off + ds.length * 6, none⟩ = some (.int .i64 yop)/\w9.cell? ⟨b, off + ds.length * 6 + 1, none⟩ = some (.int .i64 yn)/\w9.cell? ⟨b, off + ds.length * 6 + 2, none⟩ = some (.string ys)/\w9.cell? ⟨b, off + ds.length * 6 + 3, none⟩ = some (.slice yka ykn ykc)/\w9.cell? ⟨b, off + ds.length * 6 + 4, none⟩ = some (.slice yna yns.length ync)/\w9.cell? ⟨b, off + ds.length * 6 + 5, none⟩ = some (.slice ya yl.length yc'))) (by kernel_rfl) S0 (fun hHeld => ?_)
    refine tks (b := ?_) (by kernel_rfl) (fun _ _ _ _ _ h => h) S0 9 [0, 1, 2, 3, 4, 5, 6, 7, 8] (by kernel_rfl) ?_ ?_
    rotate_left
    ·iterate 9 (refine yc (v := ?_) rfl rfl (by rfl) (fun w9 hSw => ?_) ?_; rotate_left; (focus go_simp; try rfl); simp only [Act.put, l1Q, l2Q, l3Q])
     exact rfl
    refine rd1 9 (by kernel_rfl) (by rfl) (fun K hK => ?_)
    go_simp
    go_at_call 100
    refine (HDp.out _ (hbwV.trans (hbD.mono hbwV.size))).mono ?_
    rintro e w1 ⟨rfl, hb1⟩
    have hbV1 := hbD.trans (hb1.mono hbD.size)
    have gB1 := (hbV1.block _ (hLQ gV)).trans gV
    have S1 : (fun w9 => w9.cell? ⟨w.heap.size, 0, none⟩ = some (.int .i64 op)/\w9.cell? ⟨w.heap.size, 1, none⟩ = some (.int .i64 n)/\w9.cell? ⟨w.heap.size, 2, none⟩ = some (.string s)/\w9.cell? ⟨w.heap.size, 3, none⟩ = some (.slice ka kn kc)/\w9.cell? ⟨w.heap.size, 4, none⟩ = some (.slice na ns.length nc)/\w9.cell? ⟨w.heap.size, 5, none⟩ = some (.slice (some ⟨b, off, none⟩) l.length c)/\w9.cell? ⟨b, off + ds.length * 6, none⟩ = some (.int .i64 yop)/\w9.cell? ⟨b, off + ds.length * 6 + 1, none⟩ = some (.int .i64 yn)/\w9.cell? ⟨b, off + ds.length * 6 + 2, none⟩ = some (.string ys)/\w9.cell? ⟨b, off + ds.length * 6 + 3, none⟩ = some (.slice yka ykn ykc)/\w9.cell? ⟨b, off + ds.length * 6 + 4, none⟩ = some (.slice yna yns.length ync)/\w9.cell? ⟨b, off + ds.length * 6 + 5, none⟩ = some (.slice ya yl.length yc')) w1 := ⟨(cnQ gB1).1, (cnQ gB1).2.1, (cnQ gB1).2.2.1, (cnQ gB1).2.2.2.1, (cnQ gB1).2.2.2.2.1, (cnQ gB1).2.2.2.2.2, (World.cell?_of_block (a := ⟨b, off + ds.length * 6, none⟩) (hbV1.block b hbl)).trans e0, (World.cell?_of_block (a := ⟨b, off + ds.length * 6 + 1, none⟩) (hbV1.block b hbl)).trans e1, (World.cell?_of_block (a := ⟨b, off + ds.length * 6 + 2, none⟩) (hbV1.block b hbl)).trans e2, (World.cell?_of_block (a := ⟨b, off + ds.length * 6 + 3, none⟩) (hbV1.block b hbl)).trans e3, (World.cell?_of_block (a := ⟨b, off + ds.length * 6 + 4, none⟩) (hbV1.block b hbl)).trans e4, (World.cell?_of_block (a := ⟨b, off + ds.length * 6 + 5, none⟩) (hbV1.block b hbl)).trans e5⟩
    refine hK.out _ _ S1 (fun _ => ?_)
    clear hK K
    refine rd1 10 (by kernel_rfl) (by rfl) (fun K hK => ?_)
    go_simp
    go_at_call 60
    refine (HC.out _ hbV1).mono ?_
    rintro e w2 ⟨⟨dd, rfl, hdd, hpd⟩, hb2⟩
    obtain ⟨zop, zn, zs, zk, zns, zl, zka, zkn, zkc, zna, znc, za, zc, rfl, hzk, _⟩ := cSQ hdd
    rw [cVQ (op := zop) (n := zn) (s := zs) (nv := .slice zna zns.length znc) (lv := .slice za zl.length zc) (ns := zns) (l := zl) hzk]
    have hbV2 := hbV1.trans (hb2.mono hbV1.size)
    have gB2 := (hbV2.block _ (hLQ gV)).trans gV
    have S2 : (fun w9 => w9.cell? ⟨w.heap.size, 0, none⟩ = some (.int .i64 op)/\w9.cell? ⟨w.heap.size, 1, none⟩ = some (.int .i64 n)/\w9.cell? ⟨w.heap.size, 2, none⟩ = some (.string s)/\w9.cell? ⟨w.heap.size, 3, none⟩ = some (.slice ka kn kc)/\w9.cell? ⟨w.heap.size, 4, none⟩ = some (.slice na ns.length nc)/\w9.cell? ⟨w.heap.size, 5, none⟩ = some (.slice (some ⟨b, off, none⟩) l.length c)/\w9.cell? ⟨b, off + ds.length * 6, none⟩ = some (.int .i64 yop)/\w9.cell? ⟨b, off + ds.length * 6 + 1, none⟩ = some (.int .i64 yn)/\w9.cell? ⟨b, off + ds.length * 6 + 2, none⟩ = some (.string ys)/\w9.cell? ⟨b, off + ds.length * 6 + 3, none⟩ = some (.slice yka ykn ykc)/\w9.cell? ⟨b, off + ds.length * 6 + 4, none⟩ = some (.slice yna yns.length ync)/\w9.cell? ⟨b, off + ds.length * 6 + 5, none⟩ = some (.slice ya yl.length yc')) w2 := ⟨(cnQ gB2).1, (cnQ gB2).2.1, (cnQ gB2).2.2.1, (cnQ gB2).2.2.2.1, (cnQ gB2).2.2.2.2.1, (cnQ gB2).2.2.2.2.2, (World.cell?_of_block (a := ⟨b, off + ds.length * 6, none⟩) (hbV2.block b hbl)).trans e0, (World.cell?_of_block (a := ⟨b, off + ds.length * 6 + 1, none⟩) (hbV2.block b hbl)).trans e1, (World.cell?_of_block (a := ⟨b, off + ds.length * 6 + 2, none⟩) (hbV2.block b hbl)).trans e2, (World.cell?_of_block (a := ⟨b, off + ds.length * 6 + 3, none⟩) (hbV2.block b hbl)).trans e3, (World.cell?_of_block (a := ⟨b, off + ds.length * 6 + 4, none⟩) (hbV2.block b hbl)).trans e4, (World.cell?_of_block (a := ⟨b, off + ds.length * 6 + 5, none⟩) (hbV2.block b hbl)).trans e5⟩
    refine hK.out _ _ S2 (fun _ => ?_)
    clear hK K
    refine rd1 11 (by kernel_rfl) (by rfl) (fun K hK => ?_)
    go_simp
    have hbA : Below V.heap.size V (w2.alloc (.cells #[.int .i64 zop, .int .i64 zn, .string zs, .slice zka zkn zkc, .slice zna zns.length znc, .slice za zl.length zc] 28)) := hbV2.alloc hbV2.size _
    have gB3 := (hbA.block _ (hLQ gV)).trans gV
    have S3 : (fun w9 => w9.cell? ⟨w.heap.size, 0, none⟩ = some (.int .i64 op)/\w9.cell? ⟨w.heap.size, 1, none⟩ = some (.int .i64 n)/\w9.cell? ⟨w.heap.size, 2, none⟩ = some (.string s)/\w9.cell? ⟨w.heap.size, 3, none⟩ = some (.slice ka kn kc)/\w9.cell? ⟨w.heap.size, 4, none⟩ = some (.slice na ns.length nc)/\w9.cell? ⟨w.heap.size, 5, none⟩ = some (.slice (some ⟨b, off, none⟩) l.length c)/\w9.cell? ⟨b, off + ds.length * 6, none⟩ = some (.int .i64 yop)/\w9.cell? ⟨b, off + ds.length * 6 + 1, none⟩ = some (.int .i64 yn)/\w9.cell? ⟨b, off + ds.length * 6 + 2, none⟩ = some (.string ys)/\w9.cell? ⟨b, off + ds.length * 6 + 3, none⟩ = some (.slice yka ykn ykc)/\w9.cell? ⟨b, off + ds.length * 6 + 4, none⟩ = some (.slice yna yns.length ync)/\w9.cell? ⟨b, off + ds.length * 6 + 5, none⟩ = some (.slice ya yl.length yc')) (w2.alloc (.cells #[.int .i64 zop, .int .i64 zn, .string zs, .slice zka zkn zkc, .slice zna zns.length znc, .slice za zl.length zc] 28)) := ⟨(cnQ gB3).1, (cnQ gB3).2.1, (cnQ gB3).2.2.1, (cnQ gB3).2.2.2.1, (cnQ gB3).2.2.2.2.1, (cnQ gB3).2.2.2.2.2, (World.cell?_of_block (a := ⟨b, off + ds.length * 6, none⟩) (hbA.block b hbl)).trans e0, (World.cell?_of_block (a := ⟨b, off + ds.length * 6 + 1, none⟩) (hbA.block b hbl)).trans e1, (World.cell?_of_block (a := ⟨b, off + ds.length * 6 + 2, none⟩) (hbA.block b hbl)).trans e2, (World.cell?_of_block (a := ⟨b, off + ds.length * 6 + 3, none⟩) (hbA.block b hbl)).trans e3, (World.cell?_of_block (a := ⟨b, off + ds.length * 6 + 4, none⟩) (hbA.block b hbl)).trans e4, (World.cell?_of_block (a := ⟨b, off + ds.length * 6 + 5, none⟩) (hbA.block b hbl)).trans e5⟩
    refine hK.out _ _ S3 (fun _ => ?_)
    clear hK K
    have hgX := gLQ hbV2
    have HL2 := hJQ (HLs.out.grown hgX)
    have hgA := gAQ w2 (.cells #[.int .i64 zop, .int .i64 zn, .string zs, .slice zka zkn zkc, .slice zna zns.length znc, .slice za zl.length zc] 28)
    have HL3 := hJQ (HL2.out.grown hgA)
    have hsV2 : V.heap.size<=w2.heap.size := hbV2.size
    have hWV : W.heap.size<=V.heap.size := hbV.size
    refine rd1 12 (by kernel_rfl) (by rfl) (fun K hK => ?_)
    refine step_append_lies _ (by rfl) _ _ _ (by rfl) W.heap.size 28 ii0 (.agg #[.int .i64 0, .int .i64 0, .string ⟨#[]⟩, .slice none 0 0, .slice none 0 0, .slice none 0 0]) 6 104 Tryz.underlying26 hii hiz0 hiz1 hiz2 (by rfl) (by decide) _ ds.length (cCQ ds) (by rfl) HL3.out.own ⟨w2.heap.size, 0, none⟩ 1 1 [.int .i64 zop, .int .i64 zn, .string zs, .slice zka zkn zkc, .slice zna zns.length znc, .slice za zl.length zc] (by rfl) (by rfl) (World.news_of_block (cs := #[.int .i64 zop, .int .i64 zn, .string zs, .slice zka zkn zkc, .slice zna zns.length znc, .slice za zl.length zc]) (nHQ w2 _)) (by intro u hu; simp at hu; rcases hu with rfl | rfl | rfl | rfl | rfl | rfl <;> rfl) (by decide) (by unfold maxLen; omega) (by omega) (by simp; omega) _ rfl ?_
    intro gN cN w4 hown4 hgrow4 hat4 hlt4
    have hb4 : Below W.heap.size W w4 := ((hbV.trans (hbV2.mono hWV)).trans (gUQ hgA (by omega) (by nofun))).trans (gUQ hgrow4 (by simp; omega) (fun q hq => (HL3.out.own.lt q hq).1))
    have gB4 := (hb4.block _ (hLQ kB)).trans kB
    have hbl9 : b < W.heap.size ∨ ¬ b < W.heap.size := Nat.lt_or_ge _ _ |>.imp id (fun h => by omega)
    have hpc4 : ∀ (o : Nat) (v : Value), (w2.alloc (.cells #[.int .i64 zop, .int .i64 zn, .string zs, .slice zka zkn zkc, .slice zna zns.length znc, .slice za zl.length zc] 28)).cell? ⟨b, o, none⟩ = some v->w4.cell? ⟨b, o, none⟩ = some v := fun o v hc => by
     have hA9 := hbA.size
     refine World.grownBy.cell (a := ⟨b, o, none⟩) hgrow4 hc (fun e => ?_)
     have := (HL3.out.own.lt b e.symm).1
     have := hblw
     omega
    have S4 : (fun w9 => w9.cell? ⟨w.heap.size, 0, none⟩ = some (.int .i64 op)/\w9.cell? ⟨w.heap.size, 1, none⟩ = some (.int .i64 n)/\w9.cell? ⟨w.heap.size, 2, none⟩ = some (.string s)/\w9.cell? ⟨w.heap.size, 3, none⟩ = some (.slice ka kn kc)/\w9.cell? ⟨w.heap.size, 4, none⟩ = some (.slice na ns.length nc)/\w9.cell? ⟨w.heap.size, 5, none⟩ = some (.slice (some ⟨b, off, none⟩) l.length c)/\w9.cell? ⟨b, off + ds.length * 6, none⟩ = some (.int .i64 yop)/\w9.cell? ⟨b, off + ds.length * 6 + 1, none⟩ = some (.int .i64 yn)/\w9.cell? ⟨b, off + ds.length * 6 + 2, none⟩ = some (.string ys)/\w9.cell? ⟨b, off + ds.length * 6 + 3, none⟩ = some (.slice yka ykn ykc)/\w9.cell? ⟨b, off + ds.length * 6 + 4, none⟩ = some (.slice yna yns.length ync)/\w9.cell? ⟨b, off + ds.length * 6 + 5, none⟩ = some (.slice ya yl.length yc')) w4 := ⟨(cnQ gB4).1, (cnQ gB4).2.1, (cnQ gB4).2.2.1, (cnQ gB4).2.2.2.1, (cnQ gB4).2.2.2.2.1, (cnQ gB4).2.2.2.2.2, hpc4 _ _ S3.2.2.2.2.2.2.1, hpc4 _ _ S3.2.2.2.2.2.2.2.1, hpc4 _ _ S3.2.2.2.2.2.2.2.2.1, hpc4 _ _ S3.2.2.2.2.2.2.2.2.2.1, hpc4 _ _ S3.2.2.2.2.2.2.2.2.2.2.1, hpc4 _ _ S3.2.2.2.2.2.2.2.2.2.2.2⟩
    refine hK.out _ _ S4 (fun _ => ?_)
    clear hK K
    refine rd1 13 (by kernel_rfl) (by rfl) (fun K hK => ?_)
    go_simp
    refine hK.out _ _ S4 (fun _ => ?_)
    clear hK K
    refine wpAnyH_done (by kernel_rfl) ?_ _
    have hce : cEQ (.mk zop zn zs zk (.slice zna zns.length znc) zns (.slice za zl.length zc) zl) = [.int .i64 zop, .int .i64 zn, .string zs, .slice zka zkn zkc, .slice zna zns.length znc, .slice za zl.length zc] := by show [_, _, _, zk.v, _, _] = _; rw [hzk]; rfl
    rw [← hce] at hown4
    have hPs := HL2.out.push (y := .mk zop zn zs zk (.slice zna zns.length znc) zns (.slice za zl.length zc) zl) hdd hown4 hgrow4 hat4
    have HZ := hJQ hPs
    have HZE : Hid ((ds ++ [ConD.mk zop zn zs zk (.slice zna zns.length znc) zns (.slice za zl.length zc) zl]).map pC = ((l.map pC).take (ds ++ [ConD.mk zop zn zs zk (.slice zna zns.length znc) zns (.slice za zl.length zc) zl]).length).map (shiftC bI (deepC op f))) := by
     show _ = _
     rw [List.map_append, HEq.out, List.length_append, show [ConD.mk zop zn zs zk (.slice zna zns.length znc) zns (.slice za zl.length zc) zl].length = 1 from rfl, HTL.out, ← hpd]; rfl
    have HB4 := hJQ hb4
    clear HLs HL2 HL3 hPs hown4 hgrow4 hat4 hgA hgX hbA hbD hbV1 hbV2 hb4 hpc4 hdd hpd hzk hce HTL HEq hHeld S0 S1 S2 S3 S4 HC gD gB1 gB2 gB3 gB4 hb1 hb2 hbl9
    go_wp2_with fail
    go_roundw
    case rel => exact ⟨_, cN, ds ++ [ConD.mk zop zn zs zk (.slice zna zns.length znc) zns (.slice za zl.length zc) zl], by rw [List.length_append]; rfl, by rw [List.length_append]; exact hjl0, by rw [List.length_append]; go_num, by rw [List.length_append]; exact HZ, HZE, HB4.out⟩
    case measure => simp [intOf]; omega
   ·have hjl' : Hid (ds.length = l.length) := by show _ = _; omega
    have hnot : ¬ (ds.length : Int) < l.length := by omega
    have kRV := (hbV.block _ (hLQ kR)).trans kR
    have HInV := hJQ (HIn.out V oa ds.length oc hbwV)
    go_wp2_with fail
    refine HInV.out.mono ?_
    rintro e w3 ⟨rfl, hb3⟩
    have hbw3 := hbwV.trans (hb3.mono hbwV.size)
    have hg3 := gLQ hb3
    have kR3 := (hb3.block _ (hLQ kRV)).trans kRV
    have hs3 := hb3.size
    have hWV : W.heap.size<=V.heap.size := hbV.size
    obtain ⟨hrw, hel⟩ := (HLs.out.grown hg3).row (P := fun b => P b/\b ≠ w.heap.size + 1) (fun b hb => ⟨HPP.out b (by omega), by omega⟩)
    have hrow := gRQ w3 (w.heap.size + 1) #[.int .i64 op, .int .i64 n, .string s, .slice ka kn kc, .slice na ns.length nc, .slice oa ds.length oc]
    have HRF := hJQ (setRow_heap w3 (w.heap.size + 1) _ #[.int .i64 op, .int .i64 n, .string s, .slice ka kn kc, .slice na ns.length nc, .slice oa ds.length oc] _ _ kR3)
    have HBF := hJQ (hbw3.trans (gUQ (B := w.heap.size) hrow (by have := hbw3.size; omega) (fun q hq => by have e2 : w.heap.size + 1 = q := oJQ hq; omega)))
    have HCF : Hid (IsCon P (w3.setRow (w.heap.size + 1) #[.int .i64 op, .int .i64 n, .string s, .slice ka kn kc, .slice na ns.length nc, .slice oa ds.length oc]) (ConD.mk op n s k (.slice na ns.length nc) ns (.slice oa ds.length oc) ds)/\pC (ConD.mk op n s k (.slice na ns.length nc) ns (.slice oa ds.length oc) ds) = Cn.mk op n s (pK k) ns ((l.map pC).map (shiftC bI (deepC op f)))) := by
     refine ⟨IsCon.mk ?_ ?_ HX.out.parts.nlen ?_ (by unfold maxLen; omega) (fun y hy => ?_), ?_⟩
     ·exact (((HP.out.kind.keep hbw3.size (fun b _ hlt => hbw3.block b hlt))).grown hrow (fun q hq hp => by have e2 : w.heap.size + 1 = q := oJQ hq; have := hp.2; omega)).mono (fun b hb _ => hb.1)
     ·exact (((HP.out.names.keep hbw3.size (fun b _ hlt => hbw3.block b hlt))).grown hrow (fun q hq hp => by have e2 : w.heap.size + 1 = q := oJQ hq; have := hp.2; omega)).mono (fun b hb _ => hb.1)
     ·exact (hrw.grown hrow (fun q hq hp => by have e2 : w.heap.size + 1 = q := oJQ hq; exact hp.2 e2.symm)).mono (fun b hb _ => hb.1)
     ·exact ((hel y hy).grown hrow (fun q hq hp => by have e2 : w.heap.size + 1 = q := oJQ hq; exact hp.2 e2.symm)).mono (fun b hb _ => hb.1)
     ·rw [pMQ, HEq.out, hjl'.out, take_all]
    clear hrow hrw hel
    go_wp2_with (refine wpList_store_row rfl 28 _ _ rfl (w.heap.size + 1) _ rfl rfl 28 _ kR3 cIQ rfl (all_one _ rfl) ?_)
    refine bodyPost_ret (results_cell_row rfl _ _ (w.heap.size + 1) 28 #[.int .i64 op, .int .i64 n, .string s, .slice ka kn kc, .slice na ns.length nc, .slice oa ds.length oc] (0, 0) _ rfl HRF.out Tryz.underlying28 rfl cIQ) rfl ?_
    exact ⟨⟨(ConD.mk op n s k (.slice na ns.length nc) ns (.slice oa ds.length oc) ds), by rw [cVQ HKS.out], HCF.out.1, HCF.out.2⟩, HBF.out⟩
end Go.Proofs.YtkiffgdinmpljaaGreatDoor
