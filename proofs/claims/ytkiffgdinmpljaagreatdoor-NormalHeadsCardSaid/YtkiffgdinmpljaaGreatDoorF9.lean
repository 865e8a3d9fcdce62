/- tycon.formed, op by op (1, 2, 3). Printed by gen_formed.py, expanded by mac.py. -/
import Derived.Test.YtkiffgdinmpljaaGreatDoorF8
set_option linter.unusedVariables false
set_option linter.unusedSimpArgs false
namespace Go.Proofs.YtkiffgdinmpljaaGreatDoor
open Go Go.RowKit
set_option maxHeartbeats 8000000
set_option maxRecDepth 100000
theorem formed_1 (P : Nat->Prop) (n : Int) (s : ByteArray) (k : KindD) (nv : Value) (ns : List ByteArray) (lv : Value) (l : List ConD) (H : ∀ y ∈ l, FormedAll P y) (_ : True) : FormedAll P (.mk 1 n s k nv ns lv l) := by
 intro w hE h hbd
 obtain ⟨op, hop⟩ : ∃ op : Int, op = 1 := ⟨_, rfl⟩
 have HEn := hJQ hE
 rw [← hop] at h hbd ⊢
 rw [pMQ] at hbd ⊢
 obtain ⟨b1, b2, b3, b4⟩ := (bndC_mk ..).1 hbd
 obtain ⟨ka, kc, kn, na, nc, a, c, rfl, _, rfl, _, hks, hcv, hll, hnn, hb0, gC, hsz0, HP, HC0, c0, c1, c2, c3, c4, c5⟩ := open_box h
 rw [hcv]
 clear hcv
 have HX := hJQ h
 subst hop
 have HV : ∀ op, op = 1->conV (.mk op n s k (.slice na ns.length nc) ns (.slice a l.length c) l) = .agg #[.int .i64 op, .int .i64 n, .string s, .slice ka kn kc, .slice na ns.length nc, .slice a l.length c] := fun op _ => cVQ hks
 have HPt : Hid (∀ W, Below w.heap.size w W->Calls Tryz.prog 86 #[.agg #[.int .i64 1, .int .i64 n, .string s, .slice ka kn kc, .slice na ns.length nc, .slice a l.length c]] W fun e w' => e = .returned (.int .i64 0)/\Below W.heap.size W w') := fun W hW => by
  have := parts_any P _ W (iBQ HX.out hW)
  rw [HV _ rfl] at this
  exact this
 have HBi : Hid (∀ W, Below w.heap.size w W->Calls Tryz.prog 88 #[.agg #[.int .i64 1, .int .i64 n, .string s, .slice ka kn kc, .slice na ns.length nc, .slice a l.length c]] W fun e w' => e = .returned (.bool false)/\Below W.heap.size W w') := fun W hW => by
  have := binder_any P _ W (iBQ HX.out hW)
  rw [HV _ rfl] at this
  exact this
 have HLb : Hid (∀ W, Below w.heap.size w W->Calls Tryz.prog 90 #[.agg #[.int .i64 1, .int .i64 n, .string s, .slice ka kn kc, .slice na ns.length nc, .slice a l.length c]] W fun e w' => e = .returned (.bool false)/\Below W.heap.size W w') := fun W hW => by
  have := labelled_any P _ W (iBQ HX.out hW)
  rw [HV _ rfl] at this
  exact this
 have HAs : Hid (∀ W (_ : Below w.heap.size w W), Calls Tryz.prog 91 #[.slice na ns.length nc] W fun e w' => e = .returned (.bool (ascB ns))/\Below W.heap.size W w') := fun W hW => asc_any _ ns W (strs_of (rowP_below h.parts.names hW)) (by omega)
 have HNm : Hid (∀ W (_ : Below w.heap.size w W), Calls Tryz.prog 47 #[.slice na ns.length nc, .func (.func 92) #[] #[]] W fun e w' => e = .returned (.bool (!ns.all fun s => labB (bs s)))/\Below W.heap.size W w') := fun W hW => names_any P _ ns W (rowP_below h.parts.names hW) hnn (fun y hy => by have := b3 y hy; omega)
 have HI : Hid (∀ W (_ : Below w.heap.size w W), Calls Tryz.prog 22 #[.slice a l.length c, .func (.func 94) #[] #[]] W fun e w' => e = .returned (.bool (!formCL cstB labsB (l.map pC)))/\Below W.heap.size W w') := fun W hW => formedL_any P _ l H W (HEn.out.below hW) (rowP_below h.parts.row hW) hll (fun y hy => iBQ (h.parts.all y hy) hW) b4
 have hf : ∀ b, frmC (.mk 1 n s (pK k) ns (l.map pC)) = b->Ending.returned (.bool b) = Ending.returned (.bool (frmC (.mk 1 n s (pK k) ns (l.map pC)))) := fun b hb => by rw [hb]
 have HF := hJQ hf
 have HFE : Hid (frmC (.mk 1 n s (pK k) ns (l.map pC)) = (nodeC cstB labsB 1 n s (pK k) ns l.length && formCL cstB labsB (l.map pC))) := by
  show _ = _; unfold frmC; rw [formC_mk, List.length_map]
 have HK := hJQ (kind_empty h.parts.kind hks)
 have hlt : w.heap.size < (w.alloc (.cells #[.int .i64 1, .int .i64 n, .string s, .slice ka kn kc, .slice na ns.length nc, .slice a l.length c] 28)).heap.size := by omega
 clear h hf HP HC0 HX HV hE H hbd b1 b3 b4 HEn
 go_enter Tryz.func53, Tryz.ntmps53
 go_upto_region 1 with fail
 generalize w.alloc (.cells #[.int .i64 1, .int .i64 n, .string s, .slice ka kn kc, .slice na ns.length nc, .slice a l.length c] 28) = W0 at *
 have hbd : Below w.heap.size w W0.drew := hb0.trans ⟨rfl, rfl, rfl, Nat.le_refl _, fun _ _ => rfl⟩
 go_region_held3 (fun w' => w'.cell? ⟨w.heap.size, 0, none⟩ = some (.int .i64 1)/\w'.cell? ⟨w.heap.size, 1, none⟩ = some (.int .i64 n)/\w'.cell? ⟨w.heap.size, 2, none⟩ = some (.string s)/\w'.cell? ⟨w.heap.size, 3, none⟩ = some (.slice ka kn kc)/\w'.cell? ⟨w.heap.size, 4, none⟩ = some (.slice na ns.length nc)/\w'.cell? ⟨w.heap.size, 5, none⟩ = some (.slice a l.length c)) (first | exact ⟨d0, d1, d2, d3, d4, d5⟩ | exact ⟨c0, c1, c2, c3, c4, c5⟩) ((go_at_call 86; refine (HPt.out _ hbd).mono ?_; rintro e w2 ⟨rfl, hb2⟩; have g2 := (hb2.block _ hlt).trans gC; obtain ⟨d0, d1, d2, d3, d4, d5⟩ := cnQ g2))
 have hbw := hbd.trans (hb2.mono hbd.size)
 have hlt2 := hLQ g2
 clear HPt c0 c1 c2 c3 c4 c5 gC hb2 hbd hb0 hlt
 by_cases h1 : (l.length : Int) = 0
 rotate_left
 ·have h1' : ((l.length : Int) != 0) = true := nNQ h1
  have HE := HF.out false (HFE.out.trans (and_no (bFQ (fun hh => by
   obtain ⟨a1, _⟩ := node_parts hh
   exact h1 a1))))
  clear HF HFE HK HI
  go_wp2_with fail
  go_ret
  exact ⟨HE, hbw⟩
 have h1' : ((l.length : Int) != 0) = false := by rw [h1]; simp
 by_cases h3 : n < 0
 ·have HE := HF.out false (HFE.out.trans (and_no (bFQ (fun hh => by
   obtain ⟨_, a2, _⟩ := node_parts hh
   have a2 : (decide (0<=n) && decide (n<=20000)) = true := a2; simp only [Bool.and_eq_true, decide_eq_true_eq] at a2; omega))))
  clear HF HFE HK HI
  go_wp2_with fail
  go_ret
  exact ⟨HE, hbw⟩
 by_cases h4 : 20000 < n
 ·have HE := HF.out false (HFE.out.trans (and_no (bFQ (fun hh => by
   obtain ⟨_, a2, _⟩ := node_parts hh
   have a2 : (decide (0<=n) && decide (n<=20000)) = true := a2; simp only [Bool.and_eq_true, decide_eq_true_eq] at a2; omega))))
  clear HF HFE HK HI
  go_wp2_with fail
  go_ret
  exact ⟨HE, hbw⟩
 by_cases h5 : s.size = 0
 rotate_left
 ·obtain ⟨s1, s2, s3⟩ := size_some h5
  have HE := HF.out false (HFE.out.trans (and_no (bFQ (fun hh => by
   obtain ⟨_, _, a3, _⟩ := node_parts hh
   have a3 : (s.size == 0) = true := a3; exact h5 (beq_iff_eq.1 a3)))))
  clear HF HFE HK HI
  go_wp2_with fail
  go_ret
  exact ⟨HE, hbw⟩
 obtain rfl := size_zero h5
 go_wp2_with fail
 refine (HBi.out _ hbw).mono ?_
 rintro e w4 ⟨rfl, hb'⟩
 have hby := hbw.trans (hb'.mono hbw.size)
 have g4 := (hb'.block _ (hLQ g2)).trans g2
 clear hb' HBi
 clear d0 d1 d2 d3 d4 d5
 obtain ⟨p0, p1, p2, p3, p4, p5⟩ := cnQ g4
 by_cases h6 : (kn : Int) = 0
 rotate_left
 ·have h6' : 0 < (kn : Int) := by omega
  have HE := HF.out false (HFE.out.trans (and_no (bFQ (fun hh => by
   obtain ⟨_, _, _, a4, _⟩ := node_parts hh
   have a4 : (pK k).l.isEmpty = true := a4; rw [HK.out] at a4; exact h6 (by have := of_decide_eq_true a4; omega)))))
  clear HF HFE HK HI
  go_wp2_with fail
  go_ret
  exact ⟨HE, hby⟩
 have h6' : kn = 0 := by omega
 subst h6'
 have HKT : Hid ((pK k).l.isEmpty = true) := by show _ = _; rw [HK.out]; rfl
 by_cases h2 : ns = []
 rotate_left
 ·have h2' : 0 < (ns.length : Int) := by have := List.length_pos_iff.2 h2; omega
  go_wp2_with fail
  refine (HLb.out _ hby).mono ?_
  rintro e w8 ⟨rfl, hb'⟩
  have hbv := hby.trans (hb'.mono hby.size)
  have HE := HF.out false (HFE.out.trans (and_no (bFQ (fun hh => by
   obtain ⟨_, _, _, _, a5⟩ := node_parts hh
   have a5 : ns.isEmpty = true := a5; exact h2 (List.isEmpty_iff.1 a5)))))
  clear HF HFE HK HI
  go_wp2_with fail
  go_ret
  exact ⟨HE, hbv⟩
 subst h2
 have HB0 : Hid (ascB [] = true) := by show _ = _; decide
 rw [HB0.out] at HAs
 go_wp2_with fail
 refine (HAs.out _ hby).mono ?_
 rintro e w6 ⟨rfl, hb'⟩
 have hbu := hby.trans (hb'.mono hby.size)
 have g6 := (hb'.block _ (hLQ g4)).trans g4
 clear hb' HAs
 clear p0 p1 p2 p3 p4 p5
 obtain ⟨r0, r1, r2, r3, r4, r5⟩ := cnQ g6
 go_wp2_with fail
 refine (HNm.out _ hbu).mono ?_
 rintro e w7 ⟨rfl, hb'⟩
 have hbt := hbu.trans (hb'.mono hbu.size)
 have g7 := (hb'.block _ (hLQ g6)).trans g6
 clear hb' HNm
 clear r0 r1 r2 r3 r4 r5
 obtain ⟨s0, s1, s2, s3, s4, s5⟩ := cnQ g7
 go_wp2_with fail
 refine (HI.out _ hbt).mono ?_
 rintro e w9 ⟨rfl, hb'⟩
 have hbr := hbt.trans (hb'.mono hbt.size)
 have HE := hJQ (HF.out (formCL cstB labsB (l.map pC)) (HFE.out.trans (and_yes (node_yes (by rw [h1]; rfl) (show (decide (0<=n) && decide (n<=20000)) = true by rw [decide_eq_true (show 0<=n by omega), decide_eq_true (show n<=20000 by omega)]; rfl) rfl HKT.out rfl))))
 clear HF HFE HK HI
 generalize formCL cstB labsB (l.map pC) = q9 at *
 go_wp2_with fail
 go_ret
 exact ⟨by rw [← HE.out]; simp, hbr⟩
theorem formed_2 (P : Nat->Prop) (n : Int) (s : ByteArray) (k : KindD) (nv : Value) (ns : List ByteArray) (lv : Value) (l : List ConD) (H : ∀ y ∈ l, FormedAll P y) (_ : True) : FormedAll P (.mk 2 n s k nv ns lv l) := by
 intro w hE h hbd
 obtain ⟨op, hop⟩ : ∃ op : Int, op = 2 := ⟨_, rfl⟩
 have HEn := hJQ hE
 rw [← hop] at h hbd ⊢
 rw [pMQ] at hbd ⊢
 obtain ⟨b1, b2, b3, b4⟩ := (bndC_mk ..).1 hbd
 obtain ⟨ka, kc, kn, na, nc, a, c, rfl, _, rfl, _, hks, hcv, hll, hnn, hb0, gC, hsz0, HP, HC0, c0, c1, c2, c3, c4, c5⟩ := open_box h
 rw [hcv]
 clear hcv
 have HX := hJQ h
 subst hop
 have HV : ∀ op, op = 2->conV (.mk op n s k (.slice na ns.length nc) ns (.slice a l.length c) l) = .agg #[.int .i64 op, .int .i64 n, .string s, .slice ka kn kc, .slice na ns.length nc, .slice a l.length c] := fun op _ => cVQ hks
 have HPt : Hid (∀ W, Below w.heap.size w W->Calls Tryz.prog 86 #[.agg #[.int .i64 2, .int .i64 n, .string s, .slice ka kn kc, .slice na ns.length nc, .slice a l.length c]] W fun e w' => e = .returned (.int .i64 0)/\Below W.heap.size W w') := fun W hW => by
  have := parts_any P _ W (iBQ HX.out hW)
  rw [HV _ rfl] at this
  exact this
 have HBi : Hid (∀ W, Below w.heap.size w W->Calls Tryz.prog 88 #[.agg #[.int .i64 2, .int .i64 n, .string s, .slice ka kn kc, .slice na ns.length nc, .slice a l.length c]] W fun e w' => e = .returned (.bool false)/\Below W.heap.size W w') := fun W hW => by
  have := binder_any P _ W (iBQ HX.out hW)
  rw [HV _ rfl] at this
  exact this
 have HVk : Hid (∀ W (_ : Below w.heap.size w W), Calls Tryz.prog 89 #[.agg #[.slice ka kn kc]] W fun e w' => e = .returned (.bool (validK (pK k)))/\Below W.heap.size W w') := fun W hW => by
  have := kvalid_any P k W (isKind_below h.parts.kind hW)
  rw [show kindV k = .agg #[.slice ka kn kc] by show Value.agg #[k.v] = _; rw [hks]] at this
  exact this
 have HCN : Hid (∀ W (_ : Below w.heap.size w W), Calls Tryz.prog 87 #[.string s] W fun e w' => e = .returned (.bool (cstB s))/\Below W.heap.size W w') := fun W hW => constant_any s W (HEn.out.below hW) (by omega)
 have HLb : Hid (∀ W, Below w.heap.size w W->Calls Tryz.prog 90 #[.agg #[.int .i64 2, .int .i64 n, .string s, .slice ka kn kc, .slice na ns.length nc, .slice a l.length c]] W fun e w' => e = .returned (.bool false)/\Below W.heap.size W w') := fun W hW => by
  have := labelled_any P _ W (iBQ HX.out hW)
  rw [HV _ rfl] at this
  exact this
 have HAs : Hid (∀ W (_ : Below w.heap.size w W), Calls Tryz.prog 91 #[.slice na ns.length nc] W fun e w' => e = .returned (.bool (ascB ns))/\Below W.heap.size W w') := fun W hW => asc_any _ ns W (strs_of (rowP_below h.parts.names hW)) (by omega)
 have HNm : Hid (∀ W (_ : Below w.heap.size w W), Calls Tryz.prog 47 #[.slice na ns.length nc, .func (.func 92) #[] #[]] W fun e w' => e = .returned (.bool (!ns.all fun s => labB (bs s)))/\Below W.heap.size W w') := fun W hW => names_any P _ ns W (rowP_below h.parts.names hW) hnn (fun y hy => by have := b3 y hy; omega)
 have HI : Hid (∀ W (_ : Below w.heap.size w W), Calls Tryz.prog 22 #[.slice a l.length c, .func (.func 94) #[] #[]] W fun e w' => e = .returned (.bool (!formCL cstB labsB (l.map pC)))/\Below W.heap.size W w') := fun W hW => formedL_any P _ l H W (HEn.out.below hW) (rowP_below h.parts.row hW) hll (fun y hy => iBQ (h.parts.all y hy) hW) b4
 have hf : ∀ b, frmC (.mk 2 n s (pK k) ns (l.map pC)) = b->Ending.returned (.bool b) = Ending.returned (.bool (frmC (.mk 2 n s (pK k) ns (l.map pC)))) := fun b hb => by rw [hb]
 have HF := hJQ hf
 have HFE : Hid (frmC (.mk 2 n s (pK k) ns (l.map pC)) = (nodeC cstB labsB 2 n s (pK k) ns l.length && formCL cstB labsB (l.map pC))) := by
  show _ = _; unfold frmC; rw [formC_mk, List.length_map]
 have HK := hJQ (kind_empty h.parts.kind hks)
 have hlt : w.heap.size < (w.alloc (.cells #[.int .i64 2, .int .i64 n, .string s, .slice ka kn kc, .slice na ns.length nc, .slice a l.length c] 28)).heap.size := by omega
 clear h hf HP HC0 HX HV hE H hbd b1 b3 b4 HEn
 go_enter Tryz.func53, Tryz.ntmps53
 go_upto_region 1 with fail
 generalize w.alloc (.cells #[.int .i64 2, .int .i64 n, .string s, .slice ka kn kc, .slice na ns.length nc, .slice a l.length c] 28) = W0 at *
 have hbd : Below w.heap.size w W0.drew := hb0.trans ⟨rfl, rfl, rfl, Nat.le_refl _, fun _ _ => rfl⟩
 go_region_held3 (fun w' => w'.cell? ⟨w.heap.size, 0, none⟩ = some (.int .i64 2)/\w'.cell? ⟨w.heap.size, 1, none⟩ = some (.int .i64 n)/\w'.cell? ⟨w.heap.size, 2, none⟩ = some (.string s)/\w'.cell? ⟨w.heap.size, 3, none⟩ = some (.slice ka kn kc)/\w'.cell? ⟨w.heap.size, 4, none⟩ = some (.slice na ns.length nc)/\w'.cell? ⟨w.heap.size, 5, none⟩ = some (.slice a l.length c)) (first | exact ⟨d0, d1, d2, d3, d4, d5⟩ | exact ⟨c0, c1, c2, c3, c4, c5⟩) ((go_at_call 86; refine (HPt.out _ hbd).mono ?_; rintro e w2 ⟨rfl, hb2⟩; have g2 := (hb2.block _ hlt).trans gC; obtain ⟨d0, d1, d2, d3, d4, d5⟩ := cnQ g2))
 have hbw := hbd.trans (hb2.mono hbd.size)
 have hlt2 := hLQ g2
 clear HPt c0 c1 c2 c3 c4 c5 gC hb2 hbd hb0 hlt
 by_cases h1 : (l.length : Int) = 0
 rotate_left
 ·have h1' : ((l.length : Int) != 0) = true := nNQ h1
  have HE := HF.out false (HFE.out.trans (and_no (bFQ (fun hh => by
   obtain ⟨a1, _⟩ := node_parts hh
   exact h1 a1))))
  clear HF HFE HK HI
  go_wp2_with fail
  go_ret
  exact ⟨HE, hbw⟩
 have h1' : ((l.length : Int) != 0) = false := by rw [h1]; simp
 by_cases h3 : n = 0
 rotate_left
 ·have h3' : (n != 0) = true := nNQ h3
  have HE := HF.out false (HFE.out.trans (and_no (bFQ (fun hh => by
   obtain ⟨_, a2, _⟩ := node_parts hh
   have a2 : (n == 0) = true := a2; exact h3 (beq_iff_eq.1 a2)))))
  clear HF HFE HK HI
  go_wp2_with fail
  go_ret
  exact ⟨HE, hbw⟩
 subst h3
 obtain ⟨bc, hbc⟩ : ∃ b, cstB s = b := ⟨_, rfl⟩
 rw [hbc] at HCN
 have HBC := hJQ hbc
 clear hbc
 go_wp2_with fail
 refine (HCN.out _ hbw).mono ?_
 rintro e w3 ⟨rfl, hb'⟩
 have hbx := hbw.trans (hb'.mono hbw.size)
 have g3 := (hb'.block _ (hLQ g2)).trans g2
 clear hb' HCN
 clear d0 d1 d2 d3 d4 d5
 obtain ⟨e0, e1, e2, e3, e4, e5⟩ := cnQ g3
 cases bc
 ·have HE := HF.out false (HFE.out.trans (and_no (bFQ (fun hh => by
   obtain ⟨_, _, a3, _⟩ := node_parts hh
   have a3 : cstB s = true := a3
   rw [HBC.out] at a3; cases a3))))
  clear HF HFE HK HI
  go_wp2_with fail
  go_ret
  exact ⟨HE, hbx⟩
 go_wp2_with fail
 refine (HBi.out _ hbx).mono ?_
 rintro e w4 ⟨rfl, hb'⟩
 have hby := hbx.trans (hb'.mono hbx.size)
 have g4 := (hb'.block _ (hLQ g3)).trans g3
 clear hb' HBi
 clear e0 e1 e2 e3 e4 e5
 obtain ⟨p0, p1, p2, p3, p4, p5⟩ := cnQ g4
 obtain ⟨bk, hbk⟩ : ∃ b, validK (pK k) = b := ⟨_, rfl⟩
 rw [hbk] at HVk
 have HBK := hJQ hbk
 clear hbk
 go_wp2_with fail
 refine (HVk.out _ hby).mono ?_
 rintro e w5 ⟨rfl, hb'⟩
 have hbz := hby.trans (hb'.mono hby.size)
 have g5 := (hb'.block _ (hLQ g4)).trans g4
 clear hb' HVk
 clear p0 p1 p2 p3 p4 p5
 obtain ⟨q0, q1, q2, q3, q4, q5⟩ := cnQ g5
 cases bk
 ·have HE := HF.out false (HFE.out.trans (and_no (bFQ (fun hh => by
   obtain ⟨_, _, _, a4, _⟩ := node_parts hh
   have a4 : validK (pK k) = true := a4
   rw [HBK.out] at a4; cases a4))))
  clear HF HFE HK HI
  go_wp2_with fail
  go_ret
  exact ⟨HE, hbz⟩
 by_cases h2 : ns = []
 rotate_left
 ·have h2' : 0 < (ns.length : Int) := by have := List.length_pos_iff.2 h2; omega
  go_wp2_with fail
  refine (HLb.out _ hbz).mono ?_
  rintro e w8 ⟨rfl, hb'⟩
  have hbv := hbz.trans (hb'.mono hbz.size)
  have HE := HF.out false (HFE.out.trans (and_no (bFQ (fun hh => by
   obtain ⟨_, _, _, _, a5⟩ := node_parts hh
   have a5 : ns.isEmpty = true := a5; exact h2 (List.isEmpty_iff.1 a5)))))
  clear HF HFE HK HI
  go_wp2_with fail
  go_ret
  exact ⟨HE, hbv⟩
 subst h2
 have HB0 : Hid (ascB [] = true) := by show _ = _; decide
 rw [HB0.out] at HAs
 go_wp2_with fail
 refine (HAs.out _ hbz).mono ?_
 rintro e w6 ⟨rfl, hb'⟩
 have hbu := hbz.trans (hb'.mono hbz.size)
 have g6 := (hb'.block _ (hLQ g5)).trans g5
 clear hb' HAs
 clear q0 q1 q2 q3 q4 q5
 obtain ⟨r0, r1, r2, r3, r4, r5⟩ := cnQ g6
 go_wp2_with fail
 refine (HNm.out _ hbu).mono ?_
 rintro e w7 ⟨rfl, hb'⟩
 have hbt := hbu.trans (hb'.mono hbu.size)
 have g7 := (hb'.block _ (hLQ g6)).trans g6
 clear hb' HNm
 clear r0 r1 r2 r3 r4 r5
 obtain ⟨s0, s1, s2, s3, s4, s5⟩ := cnQ g7
 go_wp2_with fail
 refine (HI.out _ hbt).mono ?_
 rintro e w9 ⟨rfl, hb'⟩
 have hbr := hbt.trans (hb'.mono hbt.size)
 have HE := hJQ (HF.out (formCL cstB labsB (l.map pC)) (HFE.out.trans (and_yes (node_yes (by rw [h1]; rfl) rfl HBC.out HBK.out rfl))))
 clear HF HFE HK HI
 generalize formCL cstB labsB (l.map pC) = q9 at *
 go_wp2_with fail
 go_ret
 exact ⟨by rw [← HE.out]; simp, hbr⟩
theorem formed_3 (P : Nat->Prop) (n : Int) (s : ByteArray) (k : KindD) (nv : Value) (ns : List ByteArray) (lv : Value) (l : List ConD) (H : ∀ y ∈ l, FormedAll P y) (_ : True) : FormedAll P (.mk 3 n s k nv ns lv l) := by
 intro w hE h hbd
 obtain ⟨op, hop⟩ : ∃ op : Int, op = 3 := ⟨_, rfl⟩
 have HEn := hJQ hE
 rw [← hop] at h hbd ⊢
 rw [pMQ] at hbd ⊢
 obtain ⟨b1, b2, b3, b4⟩ := (bndC_mk ..).1 hbd
 obtain ⟨ka, kc, kn, na, nc, a, c, rfl, _, rfl, _, hks, hcv, hll, hnn, hb0, gC, hsz0, HP, HC0, c0, c1, c2, c3, c4, c5⟩ := open_box h
 rw [hcv]
 clear hcv
 have HX := hJQ h
 subst hop
 have HV : ∀ op, op = 3->conV (.mk op n s k (.slice na ns.length nc) ns (.slice a l.length c) l) = .agg #[.int .i64 op, .int .i64 n, .string s, .slice ka kn kc, .slice na ns.length nc, .slice a l.length c] := fun op _ => cVQ hks
 have HPt : Hid (∀ W, Below w.heap.size w W->Calls Tryz.prog 86 #[.agg #[.int .i64 3, .int .i64 n, .string s, .slice ka kn kc, .slice na ns.length nc, .slice a l.length c]] W fun e w' => e = .returned (.int .i64 0)/\Below W.heap.size W w') := fun W hW => by
  have := parts_any P _ W (iBQ HX.out hW)
  rw [HV _ rfl] at this
  exact this
 have HBi : Hid (∀ W, Below w.heap.size w W->Calls Tryz.prog 88 #[.agg #[.int .i64 3, .int .i64 n, .string s, .slice ka kn kc, .slice na ns.length nc, .slice a l.length c]] W fun e w' => e = .returned (.bool false)/\Below W.heap.size W w') := fun W hW => by
  have := binder_any P _ W (iBQ HX.out hW)
  rw [HV _ rfl] at this
  exact this
 have HLb : Hid (∀ W, Below w.heap.size w W->Calls Tryz.prog 90 #[.agg #[.int .i64 3, .int .i64 n, .string s, .slice ka kn kc, .slice na ns.length nc, .slice a l.length c]] W fun e w' => e = .returned (.bool false)/\Below W.heap.size W w') := fun W hW => by
  have := labelled_any P _ W (iBQ HX.out hW)
  rw [HV _ rfl] at this
  exact this
 have HAs : Hid (∀ W (_ : Below w.heap.size w W), Calls Tryz.prog 91 #[.slice na ns.length nc] W fun e w' => e = .returned (.bool (ascB ns))/\Below W.heap.size W w') := fun W hW => asc_any _ ns W (strs_of (rowP_below h.parts.names hW)) (by omega)
 have HNm : Hid (∀ W (_ : Below w.heap.size w W), Calls Tryz.prog 47 #[.slice na ns.length nc, .func (.func 92) #[] #[]] W fun e w' => e = .returned (.bool (!ns.all fun s => labB (bs s)))/\Below W.heap.size W w') := fun W hW => names_any P _ ns W (rowP_below h.parts.names hW) hnn (fun y hy => by have := b3 y hy; omega)
 have HI : Hid (∀ W (_ : Below w.heap.size w W), Calls Tryz.prog 22 #[.slice a l.length c, .func (.func 94) #[] #[]] W fun e w' => e = .returned (.bool (!formCL cstB labsB (l.map pC)))/\Below W.heap.size W w') := fun W hW => formedL_any P _ l H W (HEn.out.below hW) (rowP_below h.parts.row hW) hll (fun y hy => iBQ (h.parts.all y hy) hW) b4
 have hf : ∀ b, frmC (.mk 3 n s (pK k) ns (l.map pC)) = b->Ending.returned (.bool b) = Ending.returned (.bool (frmC (.mk 3 n s (pK k) ns (l.map pC)))) := fun b hb => by rw [hb]
 have HF := hJQ hf
 have HFE : Hid (frmC (.mk 3 n s (pK k) ns (l.map pC)) = (nodeC cstB labsB 3 n s (pK k) ns l.length && formCL cstB labsB (l.map pC))) := by
  show _ = _; unfold frmC; rw [formC_mk, List.length_map]
 have HK := hJQ (kind_empty h.parts.kind hks)
 have hlt : w.heap.size < (w.alloc (.cells #[.int .i64 3, .int .i64 n, .string s, .slice ka kn kc, .slice na ns.length nc, .slice a l.length c] 28)).heap.size := by omega
 clear h hf HP HC0 HX HV hE H hbd b1 b3 b4 HEn
 go_enter Tryz.func53, Tryz.ntmps53
 go_upto_region 1 with fail
 generalize w.alloc (.cells #[.int .i64 3, .int .i64 n, .string s, .slice ka kn kc, .slice na ns.length nc, .slice a l.length c] 28) = W0 at *
 have hbd : Below w.heap.size w W0.drew := hb0.trans ⟨rfl, rfl, rfl, Nat.le_refl _, fun _ _ => rfl⟩
 go_region_held3 (fun w' => w'.cell? ⟨w.heap.size, 0, none⟩ = some (.int .i64 3)/\w'.cell? ⟨w.heap.size, 1, none⟩ = some (.int .i64 n)/\w'.cell? ⟨w.heap.size, 2, none⟩ = some (.string s)/\w'.cell? ⟨w.heap.size, 3, none⟩ = some (.slice ka kn kc)/\w'.cell? ⟨w.heap.size, 4, none⟩ = some (.slice na ns.length nc)/\w'.cell? ⟨w.heap.size, 5, none⟩ = some (.slice a l.length c)) (first | exact ⟨d0, d1, d2, d3, d4, d5⟩ | exact ⟨c0, c1, c2, c3, c4, c5⟩) ((go_at_call 86; refine (HPt.out _ hbd).mono ?_; rintro e w2 ⟨rfl, hb2⟩; have g2 := (hb2.block _ hlt).trans gC; obtain ⟨d0, d1, d2, d3, d4, d5⟩ := cnQ g2))
 have hbw := hbd.trans (hb2.mono hbd.size)
 have hlt2 := hLQ g2
 clear HPt c0 c1 c2 c3 c4 c5 gC hb2 hbd hb0 hlt
 by_cases h1 : (l.length : Int) = 0
 rotate_left
 ·have h1' : ((l.length : Int) != 0) = true := nNQ h1
  have HE := HF.out false (HFE.out.trans (and_no (bFQ (fun hh => by
   obtain ⟨a1, _⟩ := node_parts hh
   exact h1 a1))))
  clear HF HFE HK HI
  go_wp2_with fail
  go_ret
  exact ⟨HE, hbw⟩
 have h1' : ((l.length : Int) != 0) = false := by rw [h1]; simp
 by_cases h3 : n < 0
 ·have HE := HF.out false (HFE.out.trans (and_no (bFQ (fun hh => by
   obtain ⟨_, a2, _⟩ := node_parts hh
   have a2 : (decide (0<=n) && decide (n<=20000)) = true := a2; simp only [Bool.and_eq_true, decide_eq_true_eq] at a2; omega))))
  clear HF HFE HK HI
  go_wp2_with fail
  go_ret
  exact ⟨HE, hbw⟩
 by_cases h4 : 20000 < n
 ·have HE := HF.out false (HFE.out.trans (and_no (bFQ (fun hh => by
   obtain ⟨_, a2, _⟩ := node_parts hh
   have a2 : (decide (0<=n) && decide (n<=20000)) = true := a2; simp only [Bool.and_eq_true, decide_eq_true_eq] at a2; omega))))
  clear HF HFE HK HI
  go_wp2_with fail
  go_ret
  exact ⟨HE, hbw⟩
 by_cases h5 : s.size = 0
 rotate_left
 ·obtain ⟨s1, s2, s3⟩ := size_some h5
  have HE := HF.out false (HFE.out.trans (and_no (bFQ (fun hh => by
   obtain ⟨_, _, a3, _⟩ := node_parts hh
   have a3 : (s.size == 0) = true := a3; exact h5 (beq_iff_eq.1 a3)))))
  clear HF HFE HK HI
  go_wp2_with fail
  go_ret
  exact ⟨HE, hbw⟩
 obtain rfl := size_zero h5
 go_wp2_with fail
 refine (HBi.out _ hbw).mono ?_
 rintro e w4 ⟨rfl, hb'⟩
 have hby := hbw.trans (hb'.mono hbw.size)
 have g4 := (hb'.block _ (hLQ g2)).trans g2
 clear hb' HBi
 clear d0 d1 d2 d3 d4 d5
 obtain ⟨p0, p1, p2, p3, p4, p5⟩ := cnQ g4
 by_cases h6 : (kn : Int) = 0
 rotate_left
 ·have h6' : 0 < (kn : Int) := by omega
  have HE := HF.out false (HFE.out.trans (and_no (bFQ (fun hh => by
   obtain ⟨_, _, _, a4, _⟩ := node_parts hh
   have a4 : (pK k).l.isEmpty = true := a4; rw [HK.out] at a4; exact h6 (by have := of_decide_eq_true a4; omega)))))
  clear HF HFE HK HI
  go_wp2_with fail
  go_ret
  exact ⟨HE, hby⟩
 have h6' : kn = 0 := by omega
 subst h6'
 have HKT : Hid ((pK k).l.isEmpty = true) := by show _ = _; rw [HK.out]; rfl
 by_cases h2 : ns = []
 rotate_left
 ·have h2' : 0 < (ns.length : Int) := by have := List.length_pos_iff.2 h2; omega
  go_wp2_with fail
  refine (HLb.out _ hby).mono ?_
  rintro e w8 ⟨rfl, hb'⟩
  have hbv := hby.trans (hb'.mono hby.size)
  have HE := HF.out false (HFE.out.trans (and_no (bFQ (fun hh => by
   obtain ⟨_, _, _, _, a5⟩ := node_parts hh
   have a5 : ns.isEmpty = true := a5; exact h2 (List.isEmpty_iff.1 a5)))))
  clear HF HFE HK HI
  go_wp2_with fail
  go_ret
  exact ⟨HE, hbv⟩
 subst h2
 have HB0 : Hid (ascB [] = true) := by show _ = _; decide
 rw [HB0.out] at HAs
 go_wp2_with fail
 refine (HAs.out _ hby).mono ?_
 rintro e w6 ⟨rfl, hb'⟩
 have hbu := hby.trans (hb'.mono hby.size)
 have g6 := (hb'.block _ (hLQ g4)).trans g4
 clear hb' HAs
 clear p0 p1 p2 p3 p4 p5
 obtain ⟨r0, r1, r2, r3, r4, r5⟩ := cnQ g6
 go_wp2_with fail
 refine (HNm.out _ hbu).mono ?_
 rintro e w7 ⟨rfl, hb'⟩
 have hbt := hbu.trans (hb'.mono hbu.size)
 have g7 := (hb'.block _ (hLQ g6)).trans g6
 clear hb' HNm
 clear r0 r1 r2 r3 r4 r5
 obtain ⟨s0, s1, s2, s3, s4, s5⟩ := cnQ g7
 go_wp2_with fail
 refine (HI.out _ hbt).mono ?_
 rintro e w9 ⟨rfl, hb'⟩
 have hbr := hbt.trans (hb'.mono hbt.size)
 have HE := hJQ (HF.out (formCL cstB labsB (l.map pC)) (HFE.out.trans (and_yes (node_yes (by rw [h1]; rfl) (show (decide (0<=n) && decide (n<=20000)) = true by rw [decide_eq_true (show 0<=n by omega), decide_eq_true (show n<=20000 by omega)]; rfl) rfl HKT.out rfl))))
 clear HF HFE HK HI
 generalize formCL cstB labsB (l.map pC) = q9 at *
 go_wp2_with fail
 go_ret
 exact ⟨by rw [← HE.out]; simp, hbr⟩
end Go.Proofs.YtkiffgdinmpljaaGreatDoor
