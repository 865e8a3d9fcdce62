/- tycon.formed, op by op (P, L, B). Printed by gen_formed.py, expanded by mac.py. tycon.formed and tycon.Valid. Expanded by mac.py. -/
import Derived.Test.YtkiffgdinmpljaaGreatDoorF8
import Derived.Test.YtkiffgdinmpljaaGreatDoorF9
set_option linter.unusedVariables false
set_option linter.unusedSimpArgs false
namespace Go.Proofs.YtkiffgdinmpljaaGreatDoor
open Go Go.RowKit
set_option maxHeartbeats 8000000
set_option maxRecDepth 100000
theorem formed_P (P : Nat->Prop) (op : Int) (m : Int) (n : Int) (s : ByteArray) (k : KindD) (nv : Value) (ns : List ByteArray) (lv : Value) (l : List ConD) (H : ∀ y ∈ l, FormedAll P y) (g1 : op ≠ 1) (g2 : op ≠ 2) (g3 : op ≠ 3) (gp : partsC op ns.length = m) (gb : binderB op = false) (gl : labelledB op = false) : FormedAll P (.mk op n s k nv ns lv l) := by
 intro w hE h hbd
 have HEn := hJQ hE
 rw [pMQ] at hbd ⊢
 obtain ⟨b1, b2, b3, b4⟩ := (bndC_mk ..).1 hbd
 obtain ⟨ka, kc, kn, na, nc, a, c, rfl, _, rfl, _, hks, hcv, hll, hnn, hb0, gC, hsz0, HP, HC0, c0, c1, c2, c3, c4, c5⟩ := open_box h
 rw [hcv]
 clear hcv
 have HX := hJQ h
 have HV : conV (.mk op n s k (.slice na ns.length nc) ns (.slice a l.length c) l) = .agg #[.int .i64 op, .int .i64 n, .string s, .slice ka kn kc, .slice na ns.length nc, .slice a l.length c] := cVQ hks
 have HPt : Hid (∀ W, Below w.heap.size w W->Calls Tryz.prog 86 #[.agg #[.int .i64 op, .int .i64 n, .string s, .slice ka kn kc, .slice na ns.length nc, .slice a l.length c]] W fun e w' => e = .returned (.int .i64 m)/\Below W.heap.size W w') := fun W hW => by
  have := parts_any P _ W (iBQ HX.out hW)
  rw [HV, show partsC (ConD.mk op n s k (.slice na ns.length nc) ns (.slice a l.length c) l).op (ConD.mk op n s k (.slice na ns.length nc) ns (.slice a l.length c) l).ns.length = _ from gp] at this
  exact this
 have HBi : Hid (∀ W, Below w.heap.size w W->Calls Tryz.prog 88 #[.agg #[.int .i64 op, .int .i64 n, .string s, .slice ka kn kc, .slice na ns.length nc, .slice a l.length c]] W fun e w' => e = .returned (.bool false)/\Below W.heap.size W w') := fun W hW => by
  have := binder_any P _ W (iBQ HX.out hW)
  rw [HV, show binderB (ConD.mk op n s k (.slice na ns.length nc) ns (.slice a l.length c) l).op = _ from gb] at this
  exact this
 have HLb : Hid (∀ W, Below w.heap.size w W->Calls Tryz.prog 90 #[.agg #[.int .i64 op, .int .i64 n, .string s, .slice ka kn kc, .slice na ns.length nc, .slice a l.length c]] W fun e w' => e = .returned (.bool false)/\Below W.heap.size W w') := fun W hW => by
  have := labelled_any P _ W (iBQ HX.out hW)
  rw [HV, show labelledB (ConD.mk op n s k (.slice na ns.length nc) ns (.slice a l.length c) l).op = _ from gl] at this
  exact this
 have HAs : Hid (∀ W (_ : Below w.heap.size w W), Calls Tryz.prog 91 #[.slice na ns.length nc] W fun e w' => e = .returned (.bool (ascB ns))/\Below W.heap.size W w') := fun W hW => asc_any _ ns W (strs_of (rowP_below h.parts.names hW)) (by omega)
 have HNm : Hid (∀ W (_ : Below w.heap.size w W), Calls Tryz.prog 47 #[.slice na ns.length nc, .func (.func 92) #[] #[]] W fun e w' => e = .returned (.bool (!ns.all fun s => labB (bs s)))/\Below W.heap.size W w') := fun W hW => names_any P _ ns W (rowP_below h.parts.names hW) hnn (fun y hy => by have := b3 y hy; omega)
 have HI : Hid (∀ W (_ : Below w.heap.size w W), Calls Tryz.prog 22 #[.slice a l.length c, .func (.func 94) #[] #[]] W fun e w' => e = .returned (.bool (!formCL cstB labsB (l.map pC)))/\Below W.heap.size W w') := fun W hW => formedL_any P _ l H W (HEn.out.below hW) (rowP_below h.parts.row hW) hll (fun y hy => iBQ (h.parts.all y hy) hW) b4
 have hf : ∀ b, frmC (.mk op n s (pK k) ns (l.map pC)) = b->Ending.returned (.bool b) = Ending.returned (.bool (frmC (.mk op n s (pK k) ns (l.map pC)))) := fun b hb => by rw [hb]
 have HF := hJQ hf
 have HFE : Hid (frmC (.mk op n s (pK k) ns (l.map pC)) = (nodeC cstB labsB op n s (pK k) ns l.length && formCL cstB labsB (l.map pC))) := by
  show _ = _; unfold frmC; rw [formC_mk, List.length_map]
 have NC := hJQ (node_cls (n := n) (s := s) (k := pK k) (ns := ns) (m := l.length) g1 g2 g3 gb gl)
 have GP := hJQ gp
 have e1 : (op == 1) = false := nEQ g1
 have e2 : (op == 2) = false := nEQ g2
 have e3 : (op == 3) = false := nEQ g3
 have e4 : (op != 2) = true := nNQ g2
 have HK := hJQ (kind_empty h.parts.kind hks)
 have hlt : w.heap.size < (w.alloc (.cells #[.int .i64 op, .int .i64 n, .string s, .slice ka kn kc, .slice na ns.length nc, .slice a l.length c] 28)).heap.size := by omega
 clear h hf HP HC0 HX HV hE H hbd b1 b3 b4 HEn g1 g2 g3 gp gb gl
 go_enter Tryz.func53, Tryz.ntmps53
 go_upto_region 1 with fail
 generalize w.alloc (.cells #[.int .i64 op, .int .i64 n, .string s, .slice ka kn kc, .slice na ns.length nc, .slice a l.length c] 28) = W0 at *
 have hbd : Below w.heap.size w W0.drew := hb0.trans ⟨rfl, rfl, rfl, Nat.le_refl _, fun _ _ => rfl⟩
 go_region_held3 (fun w' => w'.cell? ⟨w.heap.size, 0, none⟩ = some (.int .i64 op)/\w'.cell? ⟨w.heap.size, 1, none⟩ = some (.int .i64 n)/\w'.cell? ⟨w.heap.size, 2, none⟩ = some (.string s)/\w'.cell? ⟨w.heap.size, 3, none⟩ = some (.slice ka kn kc)/\w'.cell? ⟨w.heap.size, 4, none⟩ = some (.slice na ns.length nc)/\w'.cell? ⟨w.heap.size, 5, none⟩ = some (.slice a l.length c)) (first | exact ⟨d0, d1, d2, d3, d4, d5⟩ | exact ⟨c0, c1, c2, c3, c4, c5⟩) ((go_at_call 86; refine (HPt.out _ hbd).mono ?_; rintro e w2 ⟨rfl, hb2⟩; have g2 := (hb2.block _ hlt).trans gC; obtain ⟨d0, d1, d2, d3, d4, d5⟩ := cnQ g2))
 have hbw := hbd.trans (hb2.mono hbd.size)
 have hlt2 := hLQ g2
 clear HPt c0 c1 c2 c3 c4 c5 gC hb2 hbd hb0 hlt
 by_cases h1 : (l.length : Int) = m
 rotate_left
 ·have h1' : ((l.length : Int) != m) = true := nNQ h1
  have HE := HF.out false (HFE.out.trans (and_no (bFQ (fun hh => by
   obtain ⟨a1, _⟩ := NC.out.1 hh
   exact h1 (a1.trans GP.out)))))
  clear HF HFE HK HI
  go_wp2_with fail
  go_ret
  exact ⟨HE, hbw⟩
 have h1' : ((l.length : Int) != m) = false := by rw [h1]; simp
 by_cases h3 : n = 0
 rotate_left
 ·have h3' : (n != 0) = true := nNQ h3
  have HE := HF.out false (HFE.out.trans (and_no (bFQ (fun hh => by
   obtain ⟨_, a2, _⟩ := NC.out.1 hh
   have a2 : (n == 0) = true := a2; exact h3 (beq_iff_eq.1 a2)))))
  clear HF HFE HK HI
  go_wp2_with fail
  go_ret
  exact ⟨HE, hbw⟩
 subst h3
 by_cases h5 : s.size = 0
 rotate_left
 ·obtain ⟨s1, s2, s3⟩ := size_some h5
  have HE := HF.out false (HFE.out.trans (and_no (bFQ (fun hh => by
   obtain ⟨_, _, a3, _⟩ := NC.out.1 hh
   have a3 : (s.size == 0) = true := a3; exact h5 (beq_iff_eq.1 a3)))))
  clear HF HFE HK HI
  go_wp2_with fail
  go_ret
  exact ⟨HE, hbw⟩
 obtain rfl := size_zero h5
 go_wp2_with fail
 refine (HBi.out _ hbw).mono ?_
 rintro e w4 ⟨rfl, hb'⟩
 have hby := hbw.trans (hb'.mono hbw.size)
 have g4 := (hb'.block _ (hLQ g2)).trans g2
 clear hb' HBi
 clear d0 d1 d2 d3 d4 d5
 obtain ⟨p0, p1, p2, p3, p4, p5⟩ := cnQ g4
 by_cases h6 : (kn : Int) = 0
 rotate_left
 ·have h6' : 0 < (kn : Int) := by omega
  have HE := HF.out false (HFE.out.trans (and_no (bFQ (fun hh => by
   obtain ⟨_, _, _, a4, _⟩ := NC.out.1 hh
   have a4 : (pK k).l.isEmpty = true := a4; rw [HK.out] at a4; exact h6 (by have := of_decide_eq_true a4; omega)))))
  clear HF HFE HK HI
  go_wp2_with fail
  go_ret
  exact ⟨HE, hby⟩
 have h6' : kn = 0 := by omega
 subst h6'
 have HKT : Hid ((pK k).l.isEmpty = true) := by show _ = _; rw [HK.out]; rfl
 by_cases h2 : ns = []
 rotate_left
 ·have h2' : 0 < (ns.length : Int) := by have := List.length_pos_iff.2 h2; omega
  go_wp2_with fail
  refine (HLb.out _ hby).mono ?_
  rintro e w8 ⟨rfl, hb'⟩
  have hbv := hby.trans (hb'.mono hby.size)
  have HE := HF.out false (HFE.out.trans (and_no (bFQ (fun hh => by
   obtain ⟨_, _, _, _, a5⟩ := NC.out.1 hh
   have a5 : ns.isEmpty = true := a5; exact h2 (List.isEmpty_iff.1 a5)))))
  clear HF HFE HK HI
  go_wp2_with fail
  go_ret
  exact ⟨HE, hbv⟩
 subst h2
 have HB0 : Hid (ascB [] = true) := by show _ = _; decide
 rw [HB0.out] at HAs
 go_wp2_with fail
 refine (HAs.out _ hby).mono ?_
 rintro e w6 ⟨rfl, hb'⟩
 have hbu := hby.trans (hb'.mono hby.size)
 have g6 := (hb'.block _ (hLQ g4)).trans g4
 clear hb' HAs
 clear p0 p1 p2 p3 p4 p5
 obtain ⟨r0, r1, r2, r3, r4, r5⟩ := cnQ g6
 go_wp2_with fail
 refine (HNm.out _ hbu).mono ?_
 rintro e w7 ⟨rfl, hb'⟩
 have hbt := hbu.trans (hb'.mono hbu.size)
 have g7 := (hb'.block _ (hLQ g6)).trans g6
 clear hb' HNm
 clear r0 r1 r2 r3 r4 r5
 obtain ⟨s0, s1, s2, s3, s4, s5⟩ := cnQ g7
 go_wp2_with fail
 refine (HI.out _ hbt).mono ?_
 rintro e w9 ⟨rfl, hb'⟩
 have hbr := hbt.trans (hb'.mono hbt.size)
 have HE := hJQ (HF.out (formCL cstB labsB (l.map pC)) (HFE.out.trans (and_yes (NC.out.2 ⟨h1.trans GP.out.symm, rfl, rfl, HKT.out, rfl⟩))))
 clear HF HFE HK HI
 generalize formCL cstB labsB (l.map pC) = q9 at *
 go_wp2_with fail
 go_ret
 exact ⟨by rw [← HE.out]; simp, hbr⟩
theorem formed_L (P : Nat->Prop) (op : Int) (n : Int) (s : ByteArray) (k : KindD) (nv : Value) (ns : List ByteArray) (lv : Value) (l : List ConD) (H : ∀ y ∈ l, FormedAll P y) (g1 : op ≠ 1) (g2 : op ≠ 2) (g3 : op ≠ 3) (gp : partsC op ns.length = ns.length) (gb : binderB op = false) (gl : labelledB op = true) : FormedAll P (.mk op n s k nv ns lv l) := by
 intro w hE h hbd
 have HEn := hJQ hE
 rw [pMQ] at hbd ⊢
 obtain ⟨b1, b2, b3, b4⟩ := (bndC_mk ..).1 hbd
 obtain ⟨ka, kc, kn, na, nc, a, c, rfl, _, rfl, _, hks, hcv, hll, hnn, hb0, gC, hsz0, HP, HC0, c0, c1, c2, c3, c4, c5⟩ := open_box h
 rw [hcv]
 clear hcv
 have HX := hJQ h
 have HV : conV (.mk op n s k (.slice na ns.length nc) ns (.slice a l.length c) l) = .agg #[.int .i64 op, .int .i64 n, .string s, .slice ka kn kc, .slice na ns.length nc, .slice a l.length c] := cVQ hks
 have HPt : Hid (∀ W, Below w.heap.size w W->Calls Tryz.prog 86 #[.agg #[.int .i64 op, .int .i64 n, .string s, .slice ka kn kc, .slice na ns.length nc, .slice a l.length c]] W fun e w' => e = .returned (.int .i64 ns.length)/\Below W.heap.size W w') := fun W hW => by
  have := parts_any P _ W (iBQ HX.out hW)
  rw [HV, show partsC (ConD.mk op n s k (.slice na ns.length nc) ns (.slice a l.length c) l).op (ConD.mk op n s k (.slice na ns.length nc) ns (.slice a l.length c) l).ns.length = _ from gp] at this
  exact this
 have HBi : Hid (∀ W, Below w.heap.size w W->Calls Tryz.prog 88 #[.agg #[.int .i64 op, .int .i64 n, .string s, .slice ka kn kc, .slice na ns.length nc, .slice a l.length c]] W fun e w' => e = .returned (.bool false)/\Below W.heap.size W w') := fun W hW => by
  have := binder_any P _ W (iBQ HX.out hW)
  rw [HV, show binderB (ConD.mk op n s k (.slice na ns.length nc) ns (.slice a l.length c) l).op = _ from gb] at this
  exact this
 have HLb : Hid (∀ W, Below w.heap.size w W->Calls Tryz.prog 90 #[.agg #[.int .i64 op, .int .i64 n, .string s, .slice ka kn kc, .slice na ns.length nc, .slice a l.length c]] W fun e w' => e = .returned (.bool true)/\Below W.heap.size W w') := fun W hW => by
  have := labelled_any P _ W (iBQ HX.out hW)
  rw [HV, show labelledB (ConD.mk op n s k (.slice na ns.length nc) ns (.slice a l.length c) l).op = _ from gl] at this
  exact this
 have HAs : Hid (∀ W (_ : Below w.heap.size w W), Calls Tryz.prog 91 #[.slice na ns.length nc] W fun e w' => e = .returned (.bool (ascB ns))/\Below W.heap.size W w') := fun W hW => asc_any _ ns W (strs_of (rowP_below h.parts.names hW)) (by omega)
 have HNm : Hid (∀ W (_ : Below w.heap.size w W), Calls Tryz.prog 47 #[.slice na ns.length nc, .func (.func 92) #[] #[]] W fun e w' => e = .returned (.bool (!ns.all fun s => labB (bs s)))/\Below W.heap.size W w') := fun W hW => names_any P _ ns W (rowP_below h.parts.names hW) hnn (fun y hy => by have := b3 y hy; omega)
 have HI : Hid (∀ W (_ : Below w.heap.size w W), Calls Tryz.prog 22 #[.slice a l.length c, .func (.func 94) #[] #[]] W fun e w' => e = .returned (.bool (!formCL cstB labsB (l.map pC)))/\Below W.heap.size W w') := fun W hW => formedL_any P _ l H W (HEn.out.below hW) (rowP_below h.parts.row hW) hll (fun y hy => iBQ (h.parts.all y hy) hW) b4
 have hf : ∀ b, frmC (.mk op n s (pK k) ns (l.map pC)) = b->Ending.returned (.bool b) = Ending.returned (.bool (frmC (.mk op n s (pK k) ns (l.map pC)))) := fun b hb => by rw [hb]
 have HF := hJQ hf
 have HFE : Hid (frmC (.mk op n s (pK k) ns (l.map pC)) = (nodeC cstB labsB op n s (pK k) ns l.length && formCL cstB labsB (l.map pC))) := by
  show _ = _; unfold frmC; rw [formC_mk, List.length_map]
 have NC := hJQ (node_cls (n := n) (s := s) (k := pK k) (ns := ns) (m := l.length) g1 g2 g3 gb gl)
 have GP := hJQ gp
 have e1 : (op == 1) = false := nEQ g1
 have e2 : (op == 2) = false := nEQ g2
 have e3 : (op == 3) = false := nEQ g3
 have e4 : (op != 2) = true := nNQ g2
 have HK := hJQ (kind_empty h.parts.kind hks)
 have hlt : w.heap.size < (w.alloc (.cells #[.int .i64 op, .int .i64 n, .string s, .slice ka kn kc, .slice na ns.length nc, .slice a l.length c] 28)).heap.size := by omega
 clear h hf HP HC0 HX HV hE H hbd b1 b3 b4 HEn g1 g2 g3 gp gb gl
 go_enter Tryz.func53, Tryz.ntmps53
 go_upto_region 1 with fail
 generalize w.alloc (.cells #[.int .i64 op, .int .i64 n, .string s, .slice ka kn kc, .slice na ns.length nc, .slice a l.length c] 28) = W0 at *
 have hbd : Below w.heap.size w W0.drew := hb0.trans ⟨rfl, rfl, rfl, Nat.le_refl _, fun _ _ => rfl⟩
 go_region_held3 (fun w' => w'.cell? ⟨w.heap.size, 0, none⟩ = some (.int .i64 op)/\w'.cell? ⟨w.heap.size, 1, none⟩ = some (.int .i64 n)/\w'.cell? ⟨w.heap.size, 2, none⟩ = some (.string s)/\w'.cell? ⟨w.heap.size, 3, none⟩ = some (.slice ka kn kc)/\w'.cell? ⟨w.heap.size, 4, none⟩ = some (.slice na ns.length nc)/\w'.cell? ⟨w.heap.size, 5, none⟩ = some (.slice a l.length c)) (first | exact ⟨d0, d1, d2, d3, d4, d5⟩ | exact ⟨c0, c1, c2, c3, c4, c5⟩) ((go_at_call 86; refine (HPt.out _ hbd).mono ?_; rintro e w2 ⟨rfl, hb2⟩; have g2 := (hb2.block _ hlt).trans gC; obtain ⟨d0, d1, d2, d3, d4, d5⟩ := cnQ g2))
 have hbw := hbd.trans (hb2.mono hbd.size)
 have hlt2 := hLQ g2
 clear HPt c0 c1 c2 c3 c4 c5 gC hb2 hbd hb0 hlt
 by_cases h1 : (l.length : Int) = ns.length
 rotate_left
 ·have h1' : ((l.length : Int) != ns.length) = true := nNQ h1
  have HE := HF.out false (HFE.out.trans (and_no (bFQ (fun hh => by
   obtain ⟨a1, _⟩ := NC.out.1 hh
   exact h1 (a1.trans GP.out)))))
  clear HF HFE HK HI
  go_wp2_with fail
  go_ret
  exact ⟨HE, hbw⟩
 have h1' : ((l.length : Int) != ns.length) = false := by rw [h1]; simp
 by_cases h3 : n = 0
 rotate_left
 ·have h3' : (n != 0) = true := nNQ h3
  have HE := HF.out false (HFE.out.trans (and_no (bFQ (fun hh => by
   obtain ⟨_, a2, _⟩ := NC.out.1 hh
   have a2 : (n == 0) = true := a2; exact h3 (beq_iff_eq.1 a2)))))
  clear HF HFE HK HI
  go_wp2_with fail
  go_ret
  exact ⟨HE, hbw⟩
 subst h3
 by_cases h5 : s.size = 0
 rotate_left
 ·obtain ⟨s1, s2, s3⟩ := size_some h5
  have HE := HF.out false (HFE.out.trans (and_no (bFQ (fun hh => by
   obtain ⟨_, _, a3, _⟩ := NC.out.1 hh
   have a3 : (s.size == 0) = true := a3; exact h5 (beq_iff_eq.1 a3)))))
  clear HF HFE HK HI
  go_wp2_with fail
  go_ret
  exact ⟨HE, hbw⟩
 obtain rfl := size_zero h5
 go_wp2_with fail
 refine (HBi.out _ hbw).mono ?_
 rintro e w4 ⟨rfl, hb'⟩
 have hby := hbw.trans (hb'.mono hbw.size)
 have g4 := (hb'.block _ (hLQ g2)).trans g2
 clear hb' HBi
 clear d0 d1 d2 d3 d4 d5
 obtain ⟨p0, p1, p2, p3, p4, p5⟩ := cnQ g4
 by_cases h6 : (kn : Int) = 0
 rotate_left
 ·have h6' : 0 < (kn : Int) := by omega
  have HE := HF.out false (HFE.out.trans (and_no (bFQ (fun hh => by
   obtain ⟨_, _, _, a4, _⟩ := NC.out.1 hh
   have a4 : (pK k).l.isEmpty = true := a4; rw [HK.out] at a4; exact h6 (by have := of_decide_eq_true a4; omega)))))
  clear HF HFE HK HI
  go_wp2_with fail
  go_ret
  exact ⟨HE, hby⟩
 have h6' : kn = 0 := by omega
 subst h6'
 have HKT : Hid ((pK k).l.isEmpty = true) := by show _ = _; rw [HK.out]; rfl
 obtain ⟨ba, hba⟩ : ∃ b, ascB ns = b := ⟨_, rfl⟩
 rw [hba] at HAs
 have HBA := hJQ hba
 clear hba
 obtain ⟨bl, hbl⟩ : ∃ b, (ns.all fun s => labB (bs s)) = b := ⟨_, rfl⟩
 rw [hbl] at HNm
 have HBL := hJQ hbl
 clear hbl
 have HA5 : Hid (labsB ns = (ba && bl)) := by
  show (decide (ns.length<=1000) && ascB ns && ns.all fun s => labB (bs s)) = _
  rw [decide_eq_true (show ns.length<=1000 by omega), HBA.out, HBL.out]; rfl
 have H1 : Hid ((l.length : Int) = partsC op ns.length) := h1.trans GP.out.symm
 clear h1 h1'
 by_cases h2 : ns = []
 ·subst h2
  go_wp2_with fail
  refine (HAs.out _ hby).mono ?_
  rintro e w6 ⟨rfl, hb'⟩
  have hbu := hby.trans (hb'.mono hby.size)
  have g6 := (hb'.block _ (hLQ g4)).trans g4
  clear hb' HAs
  clear p0 p1 p2 p3 p4 p5
  obtain ⟨r0, r1, r2, r3, r4, r5⟩ := cnQ g6
  cases ba
  ·have HE := HF.out false (HFE.out.trans (and_no (bFQ (fun hh => by
    obtain ⟨_, _, _, _, a5⟩ := NC.out.1 hh
    have a5 : labsB _ = true := a5
    rw [HA5.out] at a5; simp at a5))))
   clear HF HFE HK HI
   go_wp2_with fail
   go_ret
   exact ⟨HE, hbu⟩
  go_wp2_with fail
  refine (HNm.out _ hbu).mono ?_
  rintro e w7 ⟨rfl, hb'⟩
  have hbt := hbu.trans (hb'.mono hbu.size)
  have g7 := (hb'.block _ (hLQ g6)).trans g6
  clear hb' HNm
  clear r0 r1 r2 r3 r4 r5
  obtain ⟨s0, s1, s2, s3, s4, s5⟩ := cnQ g7
  cases bl
  ·have HE := HF.out false (HFE.out.trans (and_no (bFQ (fun hh => by
    obtain ⟨_, _, _, _, a5⟩ := NC.out.1 hh
    have a5 : labsB _ = true := a5
    rw [HA5.out] at a5; simp at a5))))
   clear HF HFE HK HI
   go_wp2_with fail
   go_ret
   exact ⟨HE, hbt⟩
  go_wp2_with fail
  refine (HI.out _ hbt).mono ?_
  rintro e w9 ⟨rfl, hb'⟩
  have hbr := hbt.trans (hb'.mono hbt.size)
  have HE := hJQ (HF.out (formCL cstB labsB (l.map pC)) (HFE.out.trans (and_yes (NC.out.2 ⟨H1.out, rfl, rfl, HKT.out, HA5.out⟩))))
  clear HF HFE HK HI
  generalize formCL cstB labsB (l.map pC) = q9 at *
  go_wp2_with fail
  go_ret
  exact ⟨by rw [← HE.out]; simp, hbr⟩
 ·have h2' : 0 < (ns.length : Int) := by have := List.length_pos_iff.2 h2; omega
  have h3' : ¬ 1000 < (ns.length : Int) := by omega
  clear h2
  go_wp2_with fail
  refine (HLb.out _ hby).mono ?_
  rintro e w8 ⟨rfl, hb'⟩
  have hbv := hby.trans (hb'.mono hby.size)
  have g8 := (hb'.block _ (hLQ g4)).trans g4
  clear hb' HLb
  clear p0 p1 p2 p3 p4 p5
  obtain ⟨t0, t1, t2, t3, t4, t5⟩ := cnQ g8
  go_wp2_with fail
  refine (HAs.out _ hbv).mono ?_
  rintro e w6 ⟨rfl, hb'⟩
  have hbu := hbv.trans (hb'.mono hbv.size)
  have g6 := (hb'.block _ (hLQ g8)).trans g8
  clear hb' HAs
  clear t0 t1 t2 t3 t4 t5
  obtain ⟨r0, r1, r2, r3, r4, r5⟩ := cnQ g6
  cases ba
  ·have HE := HF.out false (HFE.out.trans (and_no (bFQ (fun hh => by
    obtain ⟨_, _, _, _, a5⟩ := NC.out.1 hh
    have a5 : labsB _ = true := a5
    rw [HA5.out] at a5; simp at a5))))
   clear HF HFE HK HI
   go_wp2_with fail
   go_ret
   exact ⟨HE, hbu⟩
  go_wp2_with fail
  refine (HNm.out _ hbu).mono ?_
  rintro e w7 ⟨rfl, hb'⟩
  have hbt := hbu.trans (hb'.mono hbu.size)
  have g7 := (hb'.block _ (hLQ g6)).trans g6
  clear hb' HNm
  clear r0 r1 r2 r3 r4 r5
  obtain ⟨s0, s1, s2, s3, s4, s5⟩ := cnQ g7
  cases bl
  ·have HE := HF.out false (HFE.out.trans (and_no (bFQ (fun hh => by
    obtain ⟨_, _, _, _, a5⟩ := NC.out.1 hh
    have a5 : labsB _ = true := a5
    rw [HA5.out] at a5; simp at a5))))
   clear HF HFE HK HI
   go_wp2_with fail
   go_ret
   exact ⟨HE, hbt⟩
  go_wp2_with fail
  refine (HI.out _ hbt).mono ?_
  rintro e w9 ⟨rfl, hb'⟩
  have hbr := hbt.trans (hb'.mono hbt.size)
  have HE := hJQ (HF.out (formCL cstB labsB (l.map pC)) (HFE.out.trans (and_yes (NC.out.2 ⟨H1.out, rfl, rfl, HKT.out, HA5.out⟩))))
  clear HF HFE HK HI
  generalize formCL cstB labsB (l.map pC) = q9 at *
  go_wp2_with fail
  go_ret
  exact ⟨by rw [← HE.out]; simp, hbr⟩
theorem formed_B (P : Nat->Prop) (op : Int) (n : Int) (s : ByteArray) (k : KindD) (nv : Value) (ns : List ByteArray) (lv : Value) (l : List ConD) (H : ∀ y ∈ l, FormedAll P y) (g1 : op ≠ 1) (g2 : op ≠ 2) (g3 : op ≠ 3) (gp : partsC op ns.length = 1) (gb : binderB op = true) (gl : labelledB op = false) : FormedAll P (.mk op n s k nv ns lv l) := by
 intro w hE h hbd
 have HEn := hJQ hE
 rw [pMQ] at hbd ⊢
 obtain ⟨b1, b2, b3, b4⟩ := (bndC_mk ..).1 hbd
 obtain ⟨ka, kc, kn, na, nc, a, c, rfl, _, rfl, _, hks, hcv, hll, hnn, hb0, gC, hsz0, HP, HC0, c0, c1, c2, c3, c4, c5⟩ := open_box h
 rw [hcv]
 clear hcv
 have HX := hJQ h
 have HV : conV (.mk op n s k (.slice na ns.length nc) ns (.slice a l.length c) l) = .agg #[.int .i64 op, .int .i64 n, .string s, .slice ka kn kc, .slice na ns.length nc, .slice a l.length c] := cVQ hks
 have HPt : Hid (∀ W, Below w.heap.size w W->Calls Tryz.prog 86 #[.agg #[.int .i64 op, .int .i64 n, .string s, .slice ka kn kc, .slice na ns.length nc, .slice a l.length c]] W fun e w' => e = .returned (.int .i64 1)/\Below W.heap.size W w') := fun W hW => by
  have := parts_any P _ W (iBQ HX.out hW)
  rw [HV, show partsC (ConD.mk op n s k (.slice na ns.length nc) ns (.slice a l.length c) l).op (ConD.mk op n s k (.slice na ns.length nc) ns (.slice a l.length c) l).ns.length = _ from gp] at this
  exact this
 have HBi : Hid (∀ W, Below w.heap.size w W->Calls Tryz.prog 88 #[.agg #[.int .i64 op, .int .i64 n, .string s, .slice ka kn kc, .slice na ns.length nc, .slice a l.length c]] W fun e w' => e = .returned (.bool true)/\Below W.heap.size W w') := fun W hW => by
  have := binder_any P _ W (iBQ HX.out hW)
  rw [HV, show binderB (ConD.mk op n s k (.slice na ns.length nc) ns (.slice a l.length c) l).op = _ from gb] at this
  exact this
 have HVk : Hid (∀ W (_ : Below w.heap.size w W), Calls Tryz.prog 89 #[.agg #[.slice ka kn kc]] W fun e w' => e = .returned (.bool (validK (pK k)))/\Below W.heap.size W w') := fun W hW => by
  have := kvalid_any P k W (isKind_below h.parts.kind hW)
  rw [show kindV k = .agg #[.slice ka kn kc] by show Value.agg #[k.v] = _; rw [hks]] at this
  exact this
 have HLb : Hid (∀ W, Below w.heap.size w W->Calls Tryz.prog 90 #[.agg #[.int .i64 op, .int .i64 n, .string s, .slice ka kn kc, .slice na ns.length nc, .slice a l.length c]] W fun e w' => e = .returned (.bool false)/\Below W.heap.size W w') := fun W hW => by
  have := labelled_any P _ W (iBQ HX.out hW)
  rw [HV, show labelledB (ConD.mk op n s k (.slice na ns.length nc) ns (.slice a l.length c) l).op = _ from gl] at this
  exact this
 have HAs : Hid (∀ W (_ : Below w.heap.size w W), Calls Tryz.prog 91 #[.slice na ns.length nc] W fun e w' => e = .returned (.bool (ascB ns))/\Below W.heap.size W w') := fun W hW => asc_any _ ns W (strs_of (rowP_below h.parts.names hW)) (by omega)
 have HNm : Hid (∀ W (_ : Below w.heap.size w W), Calls Tryz.prog 47 #[.slice na ns.length nc, .func (.func 92) #[] #[]] W fun e w' => e = .returned (.bool (!ns.all fun s => labB (bs s)))/\Below W.heap.size W w') := fun W hW => names_any P _ ns W (rowP_below h.parts.names hW) hnn (fun y hy => by have := b3 y hy; omega)
 have HI : Hid (∀ W (_ : Below w.heap.size w W), Calls Tryz.prog 22 #[.slice a l.length c, .func (.func 94) #[] #[]] W fun e w' => e = .returned (.bool (!formCL cstB labsB (l.map pC)))/\Below W.heap.size W w') := fun W hW => formedL_any P _ l H W (HEn.out.below hW) (rowP_below h.parts.row hW) hll (fun y hy => iBQ (h.parts.all y hy) hW) b4
 have hf : ∀ b, frmC (.mk op n s (pK k) ns (l.map pC)) = b->Ending.returned (.bool b) = Ending.returned (.bool (frmC (.mk op n s (pK k) ns (l.map pC)))) := fun b hb => by rw [hb]
 have HF := hJQ hf
 have HFE : Hid (frmC (.mk op n s (pK k) ns (l.map pC)) = (nodeC cstB labsB op n s (pK k) ns l.length && formCL cstB labsB (l.map pC))) := by
  show _ = _; unfold frmC; rw [formC_mk, List.length_map]
 have NC := hJQ (node_cls (n := n) (s := s) (k := pK k) (ns := ns) (m := l.length) g1 g2 g3 gb gl)
 have GP := hJQ gp
 have e1 : (op == 1) = false := nEQ g1
 have e2 : (op == 2) = false := nEQ g2
 have e3 : (op == 3) = false := nEQ g3
 have e4 : (op != 2) = true := nNQ g2
 have HK := hJQ (kind_empty h.parts.kind hks)
 have hlt : w.heap.size < (w.alloc (.cells #[.int .i64 op, .int .i64 n, .string s, .slice ka kn kc, .slice na ns.length nc, .slice a l.length c] 28)).heap.size := by omega
 clear h hf HP HC0 HX HV hE H hbd b1 b3 b4 HEn g1 g2 g3 gp gb gl
 go_enter Tryz.func53, Tryz.ntmps53
 go_upto_region 1 with fail
 generalize w.alloc (.cells #[.int .i64 op, .int .i64 n, .string s, .slice ka kn kc, .slice na ns.length nc, .slice a l.length c] 28) = W0 at *
 have hbd : Below w.heap.size w W0.drew := hb0.trans ⟨rfl, rfl, rfl, Nat.le_refl _, fun _ _ => rfl⟩
 go_region_held3 (fun w' => w'.cell? ⟨w.heap.size, 0, none⟩ = some (.int .i64 op)/\w'.cell? ⟨w.heap.size, 1, none⟩ = some (.int .i64 n)/\w'.cell? ⟨w.heap.size, 2, none⟩ = some (.string s)/\w'.cell? ⟨w.heap.size, 3, none⟩ = some (.slice ka kn kc)/\w'.cell? ⟨w.heap.size, 4, none⟩ = some (.slice na ns.length nc)/\w'.cell? ⟨w.heap.size, 5, none⟩ = some (.slice a l.length c)) (first | exact ⟨d0, d1, d2, d3, d4, d5⟩ | exact ⟨c0, c1, c2, c3, c4, c5⟩) ((go_at_call 86; refine (HPt.out _ hbd).mono ?_; rintro e w2 ⟨rfl, hb2⟩; have g2 := (hb2.block _ hlt).trans gC; obtain ⟨d0, d1, d2, d3, d4, d5⟩ := cnQ g2))
 have hbw := hbd.trans (hb2.mono hbd.size)
 have hlt2 := hLQ g2
 clear HPt c0 c1 c2 c3 c4 c5 gC hb2 hbd hb0 hlt
 by_cases h1 : (l.length : Int) = 1
 rotate_left
 ·have h1' : ((l.length : Int) != 1) = true := nNQ h1
  have HE := HF.out false (HFE.out.trans (and_no (bFQ (fun hh => by
   obtain ⟨a1, _⟩ := NC.out.1 hh
   exact h1 (a1.trans GP.out)))))
  clear HF HFE HK HI
  go_wp2_with fail
  go_ret
  exact ⟨HE, hbw⟩
 have h1' : ((l.length : Int) != 1) = false := by rw [h1]; simp
 by_cases h3 : n = 0
 rotate_left
 ·have h3' : (n != 0) = true := nNQ h3
  have HE := HF.out false (HFE.out.trans (and_no (bFQ (fun hh => by
   obtain ⟨_, a2, _⟩ := NC.out.1 hh
   have a2 : (n == 0) = true := a2; exact h3 (beq_iff_eq.1 a2)))))
  clear HF HFE HK HI
  go_wp2_with fail
  go_ret
  exact ⟨HE, hbw⟩
 subst h3
 by_cases h5 : s.size = 0
 rotate_left
 ·obtain ⟨s1, s2, s3⟩ := size_some h5
  have HE := HF.out false (HFE.out.trans (and_no (bFQ (fun hh => by
   obtain ⟨_, _, a3, _⟩ := NC.out.1 hh
   have a3 : (s.size == 0) = true := a3; exact h5 (beq_iff_eq.1 a3)))))
  clear HF HFE HK HI
  go_wp2_with fail
  go_ret
  exact ⟨HE, hbw⟩
 obtain rfl := size_zero h5
 go_wp2_with fail
 refine (HBi.out _ hbw).mono ?_
 rintro e w4 ⟨rfl, hb'⟩
 have hby := hbw.trans (hb'.mono hbw.size)
 have g4 := (hb'.block _ (hLQ g2)).trans g2
 clear hb' HBi
 clear d0 d1 d2 d3 d4 d5
 obtain ⟨p0, p1, p2, p3, p4, p5⟩ := cnQ g4
 obtain ⟨bk, hbk⟩ : ∃ b, validK (pK k) = b := ⟨_, rfl⟩
 rw [hbk] at HVk
 have HBK := hJQ hbk
 clear hbk
 go_wp2_with fail
 refine (HVk.out _ hby).mono ?_
 rintro e w5 ⟨rfl, hb'⟩
 have hbz := hby.trans (hb'.mono hby.size)
 have g5 := (hb'.block _ (hLQ g4)).trans g4
 clear hb' HVk
 clear p0 p1 p2 p3 p4 p5
 obtain ⟨q0, q1, q2, q3, q4, q5⟩ := cnQ g5
 cases bk
 ·have HE := HF.out false (HFE.out.trans (and_no (bFQ (fun hh => by
   obtain ⟨_, _, _, a4, _⟩ := NC.out.1 hh
   have a4 : validK (pK k) = true := a4
   rw [HBK.out] at a4; cases a4))))
  clear HF HFE HK HI
  go_wp2_with fail
  go_ret
  exact ⟨HE, hbz⟩
 by_cases h2 : ns = []
 rotate_left
 ·have h2' : 0 < (ns.length : Int) := by have := List.length_pos_iff.2 h2; omega
  go_wp2_with fail
  refine (HLb.out _ hbz).mono ?_
  rintro e w8 ⟨rfl, hb'⟩
  have hbv := hbz.trans (hb'.mono hbz.size)
  have HE := HF.out false (HFE.out.trans (and_no (bFQ (fun hh => by
   obtain ⟨_, _, _, _, a5⟩ := NC.out.1 hh
   have a5 : ns.isEmpty = true := a5; exact h2 (List.isEmpty_iff.1 a5)))))
  clear HF HFE HK HI
  go_wp2_with fail
  go_ret
  exact ⟨HE, hbv⟩
 subst h2
 have HB0 : Hid (ascB [] = true) := by show _ = _; decide
 rw [HB0.out] at HAs
 go_wp2_with fail
 refine (HAs.out _ hbz).mono ?_
 rintro e w6 ⟨rfl, hb'⟩
 have hbu := hbz.trans (hb'.mono hbz.size)
 have g6 := (hb'.block _ (hLQ g5)).trans g5
 clear hb' HAs
 clear q0 q1 q2 q3 q4 q5
 obtain ⟨r0, r1, r2, r3, r4, r5⟩ := cnQ g6
 go_wp2_with fail
 refine (HNm.out _ hbu).mono ?_
 rintro e w7 ⟨rfl, hb'⟩
 have hbt := hbu.trans (hb'.mono hbu.size)
 have g7 := (hb'.block _ (hLQ g6)).trans g6
 clear hb' HNm
 clear r0 r1 r2 r3 r4 r5
 obtain ⟨s0, s1, s2, s3, s4, s5⟩ := cnQ g7
 go_wp2_with fail
 refine (HI.out _ hbt).mono ?_
 rintro e w9 ⟨rfl, hb'⟩
 have hbr := hbt.trans (hb'.mono hbt.size)
 have HE := hJQ (HF.out (formCL cstB labsB (l.map pC)) (HFE.out.trans (and_yes (NC.out.2 ⟨h1.trans GP.out.symm, rfl, rfl, HBK.out, rfl⟩))))
 clear HF HFE HK HI
 generalize formCL cstB labsB (l.map pC) = q9 at *
 go_wp2_with fail
 go_ret
 exact ⟨by rw [← HE.out]; simp, hbr⟩
theorem formed_any (P : Nat->Prop) : ∀ c : ConD, FormedAll P c := by
 refine ConD.ind (fun op n s k nv ns lv l ih => ?_)
 by_cases hop : 1<=op/\op<=13
 ·obtain ⟨q1, q2⟩ := hop
  have hc : op = 1 ∨ op = 2 ∨ op = 3 ∨ op = 4 ∨ op = 5 ∨ op = 6 ∨ op = 7 ∨ op = 8 ∨ op = 9 ∨ op = 10 ∨ op = 11 ∨ op = 12 ∨ op = 13 := by omega
  rcases hc with rfl | rfl | rfl | rfl | rfl | rfl | rfl | rfl | rfl | rfl | rfl | rfl | rfl
  ·exact formed_1 P n s k nv ns lv l ih trivial
  ·exact formed_2 P n s k nv ns lv l ih trivial
  ·exact formed_3 P n s k nv ns lv l ih trivial
  ·exact formed_P P 4 0 n s k nv ns lv l ih (by decide) (by decide) (by decide) rfl rfl rfl
  ·exact formed_P P 5 0 n s k nv ns lv l ih (by decide) (by decide) (by decide) rfl rfl rfl
  ·exact formed_P P 6 2 n s k nv ns lv l ih (by decide) (by decide) (by decide) rfl rfl rfl
  ·exact formed_L P 7 n s k nv ns lv l ih (by decide) (by decide) (by decide) rfl rfl rfl
  ·exact formed_L P 8 n s k nv ns lv l ih (by decide) (by decide) (by decide) rfl rfl rfl
  ·exact formed_B P 9 n s k nv ns lv l ih (by decide) (by decide) (by decide) rfl rfl rfl
  ·exact formed_B P 10 n s k nv ns lv l ih (by decide) (by decide) (by decide) rfl rfl rfl
  ·exact formed_B P 11 n s k nv ns lv l ih (by decide) (by decide) (by decide) rfl rfl rfl
  ·exact formed_P P 12 2 n s k nv ns lv l ih (by decide) (by decide) (by decide) rfl rfl rfl
  ·exact formed_B P 13 n s k nv ns lv l ih (by decide) (by decide) (by decide) rfl rfl rfl
 ·intro w hE h hbd
  have h0 : frmC (.mk op n s (pK k) ns (l.map pC)) = false := by
   unfold frmC
   rw [formC_mk]
   refine and_no (bFQ (fun hh => ?_))
   have a1 := (node_parts hh).1
   unfold partsC at a1
   rw [if_pos (show op < 1 ∨ 13 < op by omega)] at a1
   omega
  rw [pMQ, h0]
  have h1 : partsC op ns.length = -1 := by unfold partsC; rw [if_pos (by omega)]
  clear hbd h0 ih
  obtain ⟨ka, kc, kn, na, nc, a, c, rfl, _, rfl, _, hks, hcv, hll, hnn, hb0, gC, hsz0, HP, HC0, c0, c1, c2, c3, c4, c5⟩ := open_box h
  rw [hcv]
  clear hcv
  have HPt : Hid (∀ W, Below w.heap.size w W->Calls Tryz.prog 86 #[(.agg #[.int .i64 op, .int .i64 n, .string s, .slice ka kn kc, .slice na ns.length nc, .slice a l.length c])] W fun e w' => e = .returned (.int .i64 (-1))/\Below W.heap.size W w') := fun W hW => by
   have := parts_any P _ W (iBQ h hW)
   rw [cVQ hks] at this
   have h2 : partsC (ConD.mk op n s k (.slice na ns.length nc) ns (.slice a l.length c) l).op (ConD.mk op n s k (.slice na ns.length nc) ns (.slice a l.length c) l).ns.length = -1 := h1
   rw [h2] at this
   exact this
  have hlt : w.heap.size < (w.alloc (.cells #[.int .i64 op, .int .i64 n, .string s, .slice ka kn kc, .slice na ns.length nc, .slice a l.length c] 28)).heap.size := by omega
  clear h HP HC0 hks h1 hop hE
  go_enter Tryz.func53, Tryz.ntmps53
  go_upto_region 1 with fail
  generalize w.alloc (.cells #[.int .i64 op, .int .i64 n, .string s, .slice ka kn kc, .slice na ns.length nc, .slice a l.length c] 28) = W0 at *
  have hbd : Below w.heap.size w W0.drew := hb0.trans ⟨rfl, rfl, rfl, Nat.le_refl _, fun _ _ => rfl⟩
  go_region_held3 (fun w' => w'.cell? ⟨w.heap.size, 0, none⟩ = some (.int .i64 op)/\w'.cell? ⟨w.heap.size, 1, none⟩ = some (.int .i64 n)/\w'.cell? ⟨w.heap.size, 2, none⟩ = some (.string s)/\w'.cell? ⟨w.heap.size, 3, none⟩ = some (.slice ka kn kc)/\w'.cell? ⟨w.heap.size, 4, none⟩ = some (.slice na ns.length nc)/\w'.cell? ⟨w.heap.size, 5, none⟩ = some (.slice a l.length c)) (first | exact ⟨d0, d1, d2, d3, d4, d5⟩ | exact ⟨c0, c1, c2, c3, c4, c5⟩) ((go_at_call 86; refine (HPt.out _ hbd).mono ?_; rintro e w2 ⟨rfl, hb2⟩; have g2 := (hb2.block _ hlt).trans gC; obtain ⟨d0, d1, d2, d3, d4, d5⟩ := cnQ g2))
  have hbw := hbd.trans (hb2.mono hbd.size)
  have h1' : ((l.length : Int) != -1) = true := nNQ (by omega)
  clear HPt c0 c1 c2 c3 c4 c5 gC hb2 hbd hb0 hlt
  go_wp2_with fail
  go_ret
  exact ⟨rfl, hbw⟩
theorem valid_any (P : Nat->Prop) (c : ConD) (w : World) (hE : EnvN w) (h : IsCon P w c) (hb : bndC (pC c)) (hsz : sizeC (pC c)<=1000000000) :
 Calls Tryz.prog 25 #[conV c] w fun e w' => e = .returned (.bool (valC (pC c)))/\Below w.heap.size w w' := by
 obtain ⟨op, n, s, k, nv, ns, lv, l⟩ := c
 obtain ⟨ka, kc, kn, na, nc, a, c, rfl, _, rfl, _, hks, hcv, hll, hnn, hb0, gC, hsz0, HP, HC0, c0, c1, c2, c3, c4, c5⟩ := open_box h
 rw [hcv]
 clear hcv
 have HC := hJQ (csize_any P _ _ HC0.out hsz)
 have HD := hJQ (fun W (hW : Below w.heap.size w W) => cdepth_any P _ W (iBQ h hW) hsz)
 have HA := hJQ (fun W (hW : Below w.heap.size w W) => formed_any P _ W (hE.below hW) (iBQ h hW) hb)
 have hlt : w.heap.size < (w.alloc (.cells #[.int .i64 op, .int .i64 n, .string s, .slice ka kn kc, .slice na ns.length nc, .slice a l.length c] 28)).heap.size := by omega
 rw [cVQ hks] at HC HD HA
 have hds := depth_size (pC (.mk op n s k (.slice na ns.length nc) ns (.slice a l.length c) l))
 have HE : Hid (∀ b, valC (pC (.mk op n s k (.slice na ns.length nc) ns (.slice a l.length c) l)) = b->Ending.returned (.bool b) = Ending.returned (.bool (valC (pC (.mk op n s k (.slice na ns.length nc) ns (.slice a l.length c) l))))) := fun b hb => by rw [hb]
 clear h hks HP HC0 hb hsz0 hE
 have HV : Hid (valC (pC (.mk op n s k (.slice na ns.length nc) ns (.slice a l.length c) l)) = (decide (sizeC (pC (.mk op n s k (.slice na ns.length nc) ns (.slice a l.length c) l))<=20000) && decide (dCQ (pC (.mk op n s k (.slice na ns.length nc) ns (.slice a l.length c) l))<=400) && frmC (pC (.mk op n s k (.slice na ns.length nc) ns (.slice a l.length c) l)))) := rfl
 generalize pC (.mk op n s k (.slice na ns.length nc) ns (.slice a l.length c) l) = x at *
 go_enter Tryz.func25, Tryz.ntmps25
 go_wp2_with fail
 refine HC.out.mono ?_
 rintro e w2 ⟨rfl, hb2⟩
 have hbw := hb0.trans (hb2.mono hb0.size)
 generalize w.alloc (.cells #[.int .i64 op, .int .i64 n, .string s, .slice ka kn kc, .slice na ns.length nc, .slice a l.length c] 28) = W0 at *
 have g2 := (hb2.block _ hlt).trans gC
 obtain ⟨d0, d1, d2, d3, d4, d5⟩ := cnQ g2
 clear HC c0 c1 c2 c3 c4 c5 gC
 by_cases q1 : (sizeC x : Int)<=20000
 rotate_left
 ·have HE2 := HE.out false (by rw [HV.out, decide_eq_false (show ¬ sizeC x<=20000 by omega)]; rfl)
  clear HE HV HA HD
  go_wp2_with fail
  go_ret
  exact ⟨HE2, hbw⟩
 go_wp2_with fail
 refine (HD.out _ hbw).mono ?_
 rintro e w3 ⟨rfl, hb3⟩
 have hbw3 := hbw.trans (hb3.mono hbw.size)
 have g3 := (hb3.block _ (hLQ g2)).trans g2
 obtain ⟨e0, e1, e2, e3, e4, e5⟩ := cnQ g3
 clear HD d0 d1 d2 d3 d4 d5 g2 hb3
 by_cases q2 : (dCQ x : Int)<=400
 rotate_left
 ·have HE2 := HE.out false (by rw [HV.out, decide_eq_false (show ¬ dCQ x<=400 by omega), Bool.and_false]; rfl)
  clear HE HV HA
  go_wp2_with fail
  go_ret
  exact ⟨HE2, hbw3⟩
 have HE2 := hJQ (HE.out (frmC x) (by rw [HV.out, decide_eq_true (show sizeC x<=20000 by omega), decide_eq_true (show dCQ x<=400 by omega)]; rfl))
 go_wp2_with fail
 refine (HA.out _ hbw3).mono ?_
 rintro e w4 ⟨rfl, hb4⟩
 have hbw4 := hbw3.trans (hb4.mono hbw3.size)
 clear HA HE HV
 generalize frmC x = q at *
 go_wp2_with fail
 go_ret
 exact ⟨HE2.out, hbw4⟩
end Go.Proofs.YtkiffgdinmpljaaGreatDoor
