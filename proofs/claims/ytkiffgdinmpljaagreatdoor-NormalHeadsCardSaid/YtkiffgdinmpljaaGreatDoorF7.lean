/- The reference's node, op by op. Printed by gen_node.py, expanded by mac.py. The reference's node at every operation. Expanded by mac.py. -/
import Derived.Test.YtkiffgdinmpljaaGreatDoorF6
set_option linter.unusedVariables false
set_option linter.unusedSimpArgs false
namespace Go.Proofs.YtkiffgdinmpljaaGreatDoor
open Go Go.RowKit
set_option maxHeartbeats 8000000
set_option maxRecDepth 100000
theorem size_zero {s : ByteArray} (h : s.size = 0) : s = ⟨#[]⟩ := by
 cases s with
 | mk d => congr 1; exact Array.eq_empty_of_size_eq_zero h
theorem size_some {s : ByteArray} (h : s.size ≠ 0) : s.toList.isEmpty = false/\¬ s.toList = []/\s ≠ ⟨#[]⟩ := by
 have h1 : ¬ s.toList = [] := fun e => h (by
  have h2 : s.toList.length = s.size := by rw [ByteArray.toList_eq, Array.length_toList]; rfl
  rw [e] at h2; exact h2.symm)
 refine ⟨?_, h1, fun e => h (by rw [e]; rfl)⟩
 cases hl : s.toList with
 | nil => exact absurd hl h1
 | cons _ _ => rfl
theorem kind_empty {P : Nat->Prop} {w : World} {k : KindD} (h : IsKind P w k) {ka : Option Addr} {kn kc : Nat} (hv : k.v = .slice ka kn kc) : (pK k).l.isEmpty = decide (kn = 0) := by
 obtain ⟨v, l⟩ := k
 obtain ⟨a, c, hv', _⟩ := h.parts.1
 have hv : v = .slice ka kn kc := hv
 rw [hv] at hv'
 obtain ⟨_, rfl, _⟩ := Value.slice.inj hv'
 rw [pureK_mk]
 cases l <;> simp [Kd.l]
def rpartsC (op : Int) : Int := if op = 6 ∨ op = 12 then 2 else if labelledB op = true then -1 else if binderB op = true then 1 else 0
theorem rparts_any (op : Int) (w : World) :
 Calls Tryz.prog 102 #[.int .i64 op] w fun e w' => e = .returned (.int .i64 (rpartsC op))/\w' = w := by
 have hf : ∀ b, rpartsC op = b->Ending.returned (.int .i64 b) = Ending.returned (.int .i64 (rpartsC op)) := fun b hb => by rw [hb]
 have HF := hJQ hf
 have HB := hJQ (opBinder_any 105 (.inr rfl) op w)
 obtain ⟨bb, hbb⟩ : ∃ b, binderB op = b := ⟨_, rfl⟩
 rw [hbb] at HB
 have HBB := hJQ hbb
 show Calls _ _ _ _ fun e w' => e = Ending.returned (.int .i64 (rpartsC op))/\_
 clear hf hbb
 by_cases q6 : op = 6
 ·subst q6
  go_enter Tryz.func102, Tryz.ntmps102
  go_wp2_with fail
  go_ret
  exact ⟨rfl, rfl⟩
 by_cases q12 : op = 12
 ·subst q12
  go_enter Tryz.func102, Tryz.ntmps102
  go_wp2_with fail
  go_ret
  exact ⟨rfl, rfl⟩
 by_cases q7 : op = 7
 ·subst q7
  go_enter Tryz.func102, Tryz.ntmps102
  go_wp2_with fail
  go_ret
  exact ⟨rfl, rfl⟩
 by_cases q8 : op = 8
 ·subst q8
  go_enter Tryz.func102, Tryz.ntmps102
  go_wp2_with fail
  go_ret
  exact ⟨rfl, rfl⟩
 have hlb : labelledB op = false := by simp [labelledB, q7, q8]
 have HE := hJQ (fun b (hb : (if bb = true then (1 : Int) else 0) = b) => HF.out b (by unfold rpartsC; rw [if_neg (by omega), hlb, HBB.out]; simpa using hb))
 clear HF HBB hlb
 have n6 : (op == 6) = false := nEQ q6
 have n12 : (op == 12) = false := nEQ q12
 have n7 : (op == 7) = false := nEQ q7
 have n8 : (op == 8) = false := nEQ q8
 cases bb
 all_goals
  go_enter Tryz.func102, Tryz.ntmps102
  go_wp2_with fail
  refine HB.out.mono ?_
  rintro e w2 ⟨rfl, rfl⟩
  go_wp2_with fail
  go_ret
  exact ⟨HE.out _ rfl, rfl⟩
theorem node_parts {op n : Int} {s : ByteArray} {k : Kd} {ns : List ByteArray} {m : Nat} (h : nodeC cstB labsB op n s k ns m = true) : (m : Int) = partsC op ns.length/\(if op = 1 ∨ op = 3 then decide (0<=n) && decide (n<=20000) else n == 0) = true/\(if op = 2 then cstB s else s.size == 0) = true/\(if binderB op || op == 2 then validK k else k.l.isEmpty) = true/\(if labelledB op = true then labsB ns else ns.isEmpty) = true := by
 unfold nodeC at h
 simp only [Bool.and_eq_true, decide_eq_true_eq] at h
 obtain ⟨⟨⟨⟨a1, a2⟩, a3⟩, a4⟩, a5⟩ := h
 exact ⟨a1, a2, a3, a4, a5⟩
theorem node_yes {op n : Int} {s : ByteArray} {k : Kd} {ns : List ByteArray} {m : Nat} (a1 : (m : Int) = partsC op ns.length) (a2 : (if op = 1 ∨ op = 3 then decide (0<=n) && decide (n<=20000) else n == 0) = true) (a3 : (if op = 2 then cstB s else s.size == 0) = true) (a4 : (if binderB op || op == 2 then validK k else k.l.isEmpty) = true) (a5 : (if labelledB op = true then labsB ns else ns.isEmpty) = true) : nodeC cstB labsB op n s k ns m = true := by
 unfold nodeC
 simp only [Bool.and_eq_true, decide_eq_true_eq]
 exact ⟨⟨⟨⟨a1, a2⟩, a3⟩, a4⟩, a5⟩
theorem node_cls {op n : Int} {s : ByteArray} {k : Kd} {ns : List ByteArray} {m : Nat} {bi la : Bool} (h1 : op ≠ 1) (h2 : op ≠ 2) (h3 : op ≠ 3) (hb : binderB op = bi) (hl : labelledB op = la) : nodeC cstB labsB op n s k ns m = true ↔ (m : Int) = partsC op ns.length/\(n == 0) = true/\(s.size == 0) = true/\(if bi = true then validK k else k.l.isEmpty) = true/\(if la = true then labsB ns else ns.isEmpty) = true := by
 have e2 : (op == 2) = false := nEQ h2
 constructor
 ·intro h
  obtain ⟨a1, a2, a3, a4, a5⟩ := node_parts h
  rw [if_neg (by omega)] at a2
  rw [if_neg h2] at a3
  rw [hb, e2, Bool.or_false] at a4
  rw [hl] at a5
  exact ⟨a1, a2, a3, a4, a5⟩
 ·rintro ⟨a1, a2, a3, a4, a5⟩
  refine node_yes a1 ?_ ?_ ?_ ?_
  ·rw [if_neg (by omega)]; exact a2
  ·rw [if_neg h2]; exact a3
  ·rw [hb, e2, Bool.or_false]; exact a4
  ·rw [hl]; exact a5
def NodeOk (op n : Int) (s : ByteArray) (k : KindD) (ns : List ByteArray) (m : Nat) (w : World) (e : Ending) (w' : World) : Prop := e = .returned (.bool (nodeC cstB labsB op n s (pK k) ns m))/\Below w.heap.size w w'
theorem node_1 (P : Nat->Prop) (n : Int) (s : ByteArray) (k : KindD) (nv : Value) (ns : List ByteArray) (lv : Value) (l : List ConD) (w : World) (h : IsCon P w (.mk 1 n s k nv ns lv l)) (hs : s.size<=1000) (hns : ∀ x ∈ ns, x.size<=1000) (hnl : ns.length<=1000000)  :
 Calls Tryz.prog 62 #[conV (.mk 1 n s k nv ns lv l)] w (NodeOk 1 n s k ns l.length w) := by
 obtain ⟨op, hop⟩ : ∃ op : Int, op = 1 := ⟨_, rfl⟩
 rw [← hop] at h ⊢
 obtain ⟨ka, kc, kn, na, nc, a, c, rfl, _, rfl, _, hks, hcv, hll, hnn, hb0, gC, hsz0, HP, HC0, c0, c1, c2, c3, c4, c5⟩ := open_box h
 rw [hcv]
 clear hcv
 subst hop
 have hf : ∀ b, nodeC cstB labsB 1 n s (pK k) ns l.length = b->Ending.returned (.bool b) = Ending.returned (.bool (nodeC cstB labsB 1 n s (pK k) ns l.length)) := fun b hb => by rw [hb]
 have HF := hJQ hf
 have HK := hJQ (kind_empty h.parts.kind hks)
 have HP2 : Hid (Calls Tryz.prog 102 #[.int .i64 1] (w.alloc (.cells #[.int .i64 1, .int .i64 n, .string s, .slice ka kn kc, .slice na ns.length nc, .slice a l.length c] 28)) fun e w' => e = .returned (.int .i64 (0))/\w' = w.alloc (.cells #[.int .i64 1, .int .i64 n, .string s, .slice ka kn kc, .slice na ns.length nc, .slice a l.length c] 28)) := rparts_any 1 _
 have HB2 : Hid (Calls Tryz.prog 105 #[.int .i64 1] (w.alloc (.cells #[.int .i64 1, .int .i64 n, .string s, .slice ka kn kc, .slice na ns.length nc, .slice a l.length c] 28)) fun e w' => e = .returned (.bool false)/\w' = w.alloc (.cells #[.int .i64 1, .int .i64 n, .string s, .slice ka kn kc, .slice na ns.length nc, .slice a l.length c] 28)) := opBinder_any 105 (.inr rfl) 1 _
 have hlt : w.heap.size < (w.alloc (.cells #[.int .i64 1, .int .i64 n, .string s, .slice ka kn kc, .slice na ns.length nc, .slice a l.length c] 28)).heap.size := by omega
 clear h hf HP HC0
 go_enter Tryz.func62, Tryz.ntmps62
 go_wp2_with fail
 refine HP2.out.mono ?_
 rintro e w1 ⟨rfl, rfl⟩
 clear HP2
 generalize w.alloc (.cells #[.int .i64 1, .int .i64 n, .string s, .slice ka kn kc, .slice na ns.length nc, .slice a l.length c] 28) = W0 at *
 by_cases h1 : (l.length : Int) = 0
 rotate_left
 ·have h1' : ((l.length : Int) != 0) = true := nNQ h1
  have HE := HF.out false (bFQ (fun hh => by
   obtain ⟨a1, _⟩ := node_parts hh
   exact h1 a1))
  clear HF HK
  go_wp2_with fail
  go_ret
  exact ⟨HE, hb0⟩
 have h1' : ((l.length : Int) != 0) = false := by rw [h1]; simp
 by_cases h2 : (ns.length : Int) = 0
 rotate_left
 ·have h2' : ((ns.length : Int) != 0) = true := nNQ h2
  have HE := HF.out false (bFQ (fun hh => by
   obtain ⟨_, _, _, _, a5⟩ := node_parts hh
   have a5 : ns.isEmpty = true := a5; exact h2 (by rw [List.isEmpty_iff] at a5; rw [a5]; rfl)))
  clear HF HK
  go_wp2_with fail
  go_ret
  exact ⟨HE, hb0⟩
 have h2' : ((ns.length : Int) != 0) = false := by rw [h2]; rfl
 have H2 : Hid (ns.isEmpty = true) := by cases ns with | nil => rfl | cons => simp at h2; omega
 by_cases h3 : n < 0
 ·have HE := HF.out false (bFQ (fun hh => by
   obtain ⟨_, a2, _⟩ := node_parts hh
   have a2 : (decide (0<=n) && decide (n<=20000)) = true := a2; simp only [Bool.and_eq_true, decide_eq_true_eq] at a2; omega))
  clear HF HK
  go_wp2_with fail
  go_ret
  exact ⟨HE, hb0⟩
 by_cases h4 : 20000 < n
 ·have HE := HF.out false (bFQ (fun hh => by
   obtain ⟨_, a2, _⟩ := node_parts hh
   have a2 : (decide (0<=n) && decide (n<=20000)) = true := a2; simp only [Bool.and_eq_true, decide_eq_true_eq] at a2; omega))
  clear HF HK
  go_wp2_with fail
  go_ret
  exact ⟨HE, hb0⟩
 by_cases h5 : s.size = 0
 rotate_left
 ·obtain ⟨s1, s2, s3⟩ := size_some h5
  have HE := HF.out false (bFQ (fun hh => by
   obtain ⟨_, _, a3, _⟩ := node_parts hh
   have a3 : (s.size == 0) = true := a3; exact h5 (beq_iff_eq.1 a3)))
  clear HF HK
  go_wp2_with fail
  go_ret
  exact ⟨HE, hb0⟩
 obtain rfl := size_zero h5
 go_wp2_with fail
 refine HB2.out.mono ?_
 rintro e w3 ⟨rfl, rfl⟩
 clear HB2
 by_cases h6 : (kn : Int) = 0
 ·have h6' : kn = 0 := by omega
  subst h6'
  have HE := HF.out true (node_yes (by rw [h1]; rfl) (show (decide (0<=n) && decide (n<=20000)) = true by rw [decide_eq_true (show 0<=n by omega), decide_eq_true (show n<=20000 by omega)]; rfl) rfl (show (pK k).l.isEmpty = true by rw [HK.out]; rfl) H2.out)
  clear HF HK
  go_wp2_with fail
  go_ret
  exact ⟨HE, hb0⟩
 ·have h6' : ((kn : Int) == 0) = false := nEQ h6
  have HE := HF.out false (bFQ (fun hh => by
   obtain ⟨_, _, _, a4, _⟩ := node_parts hh
   have a4 : (pK k).l.isEmpty = true := a4; rw [HK.out] at a4; exact h6 (by have := of_decide_eq_true a4; omega)))
  clear HF HK
  go_wp2_with fail
  go_ret
  exact ⟨HE, hb0⟩
theorem node_2 (P : Nat->Prop) (n : Int) (s : ByteArray) (k : KindD) (nv : Value) (ns : List ByteArray) (lv : Value) (l : List ConD) (w : World) (h : IsCon P w (.mk 2 n s k nv ns lv l)) (hs : s.size<=1000) (hns : ∀ x ∈ ns, x.size<=1000) (hnl : ns.length<=1000000)  :
 Calls Tryz.prog 62 #[conV (.mk 2 n s k nv ns lv l)] w (NodeOk 2 n s k ns l.length w) := by
 obtain ⟨op, hop⟩ : ∃ op : Int, op = 2 := ⟨_, rfl⟩
 rw [← hop] at h ⊢
 obtain ⟨ka, kc, kn, na, nc, a, c, rfl, _, rfl, _, hks, hcv, hll, hnn, hb0, gC, hsz0, HP, HC0, c0, c1, c2, c3, c4, c5⟩ := open_box h
 rw [hcv]
 clear hcv
 subst hop
 have hf : ∀ b, nodeC cstB labsB 2 n s (pK k) ns l.length = b->Ending.returned (.bool b) = Ending.returned (.bool (nodeC cstB labsB 2 n s (pK k) ns l.length)) := fun b hb => by rw [hb]
 have HF := hJQ hf
 have HK := hJQ (kind_empty h.parts.kind hks)
 have HP2 : Hid (Calls Tryz.prog 102 #[.int .i64 2] (w.alloc (.cells #[.int .i64 2, .int .i64 n, .string s, .slice ka kn kc, .slice na ns.length nc, .slice a l.length c] 28)) fun e w' => e = .returned (.int .i64 (0))/\w' = w.alloc (.cells #[.int .i64 2, .int .i64 n, .string s, .slice ka kn kc, .slice na ns.length nc, .slice a l.length c] 28)) := rparts_any 2 _
 have HV : Hid (∀ W (_ : Below w.heap.size w W), Calls Tryz.prog 106 #[.agg #[.slice ka kn kc]] W fun e w' => e = .returned (.bool (validK (pK k)))/\Below W.heap.size W w') := fun W hW => by
  have := rkvalid_any P k W (isKind_below h.parts.kind hW)
  rw [show kindV k = .agg #[.slice ka kn kc] by show Value.agg #[k.v] = _; rw [hks]] at this
  exact this
 have HCN := hJQ (fun W => constName_any s W hs)
 have hlt : w.heap.size < (w.alloc (.cells #[.int .i64 2, .int .i64 n, .string s, .slice ka kn kc, .slice na ns.length nc, .slice a l.length c] 28)).heap.size := by omega
 clear h hf HP HC0
 go_enter Tryz.func62, Tryz.ntmps62
 go_wp2_with fail
 refine HP2.out.mono ?_
 rintro e w1 ⟨rfl, rfl⟩
 clear HP2
 generalize w.alloc (.cells #[.int .i64 2, .int .i64 n, .string s, .slice ka kn kc, .slice na ns.length nc, .slice a l.length c] 28) = W0 at *
 by_cases h1 : (l.length : Int) = 0
 rotate_left
 ·have h1' : ((l.length : Int) != 0) = true := nNQ h1
  have HE := HF.out false (bFQ (fun hh => by
   obtain ⟨a1, _⟩ := node_parts hh
   exact h1 a1))
  clear HF HK
  go_wp2_with fail
  go_ret
  exact ⟨HE, hb0⟩
 have h1' : ((l.length : Int) != 0) = false := by rw [h1]; simp
 by_cases h2 : (ns.length : Int) = 0
 rotate_left
 ·have h2' : ((ns.length : Int) != 0) = true := nNQ h2
  have HE := HF.out false (bFQ (fun hh => by
   obtain ⟨_, _, _, _, a5⟩ := node_parts hh
   have a5 : ns.isEmpty = true := a5; exact h2 (by rw [List.isEmpty_iff] at a5; rw [a5]; rfl)))
  clear HF HK
  go_wp2_with fail
  go_ret
  exact ⟨HE, hb0⟩
 have h2' : ((ns.length : Int) != 0) = false := by rw [h2]; rfl
 have H2 : Hid (ns.isEmpty = true) := by cases ns with | nil => rfl | cons => simp at h2; omega
 by_cases h3 : n = 0
 rotate_left
 ·have h3' : (n != 0) = true := nNQ h3
  have HE := HF.out false (bFQ (fun hh => by
   obtain ⟨_, a2, _⟩ := node_parts hh
   have a2 : (n == 0) = true := a2; exact h3 (beq_iff_eq.1 a2)))
  clear HF HK
  go_wp2_with fail
  go_ret
  exact ⟨HE, hb0⟩
 subst h3
 obtain ⟨bc, hbc⟩ : ∃ b, cstB s = b := ⟨_, rfl⟩
 have HCN' := hJQ (HCN.out W0)
 rw [hbc] at HCN'
 have HBC := hJQ hbc
 clear hbc HCN
 go_wp2_with fail
 refine HCN'.out.mono ?_
 rintro e w2 ⟨rfl, hb2⟩
 have hbw := hb0.trans (hb2.mono hb0.size)
 have g2 := (hb2.block _ hlt).trans gC
 obtain ⟨d0, d1, d2, d3, d4, d5⟩ := cnQ g2
 clear c0 c1 c2 c3 c4 c5 gC HCN' hb2
 cases bc
 ·have HE := HF.out false (bFQ (fun hh => by
   obtain ⟨_, _, a3, _⟩ := node_parts hh
   have a3 : cstB s = true := a3
   rw [HBC.out] at a3; cases a3))
  clear HF HK HV
  go_wp2_with fail
  go_ret
  exact ⟨HE, hbw⟩
 have HV2 := hJQ (HV.out _ hbw)
 have HE := hJQ (HF.out (validK (pK k)) (by
  cases hq : validK (pK k)
  ·exact Bool.eq_false_iff.2 (fun hh => by
    obtain ⟨_, _, _, a4, _⟩ := node_parts hh
    have a4 : validK (pK k) = true := a4
    rw [hq] at a4; cases a4)
  ·exact node_yes (by rw [h1]; rfl) rfl HBC.out hq H2.out))
 clear HF HV HK
 generalize validK (pK k) = q at *
 go_wp2_with fail
 refine HV2.out.mono ?_
 rintro e w4 ⟨rfl, hb4⟩
 have hbz := (hbw).trans (hb4.mono (hbw).size)
 clear HV2
 go_wp2_with fail
 go_ret
 exact ⟨HE.out, hbz⟩
theorem node_3 (P : Nat->Prop) (n : Int) (s : ByteArray) (k : KindD) (nv : Value) (ns : List ByteArray) (lv : Value) (l : List ConD) (w : World) (h : IsCon P w (.mk 3 n s k nv ns lv l)) (hs : s.size<=1000) (hns : ∀ x ∈ ns, x.size<=1000) (hnl : ns.length<=1000000)  :
 Calls Tryz.prog 62 #[conV (.mk 3 n s k nv ns lv l)] w (NodeOk 3 n s k ns l.length w) := by
 obtain ⟨op, hop⟩ : ∃ op : Int, op = 3 := ⟨_, rfl⟩
 rw [← hop] at h ⊢
 obtain ⟨ka, kc, kn, na, nc, a, c, rfl, _, rfl, _, hks, hcv, hll, hnn, hb0, gC, hsz0, HP, HC0, c0, c1, c2, c3, c4, c5⟩ := open_box h
 rw [hcv]
 clear hcv
 subst hop
 have hf : ∀ b, nodeC cstB labsB 3 n s (pK k) ns l.length = b->Ending.returned (.bool b) = Ending.returned (.bool (nodeC cstB labsB 3 n s (pK k) ns l.length)) := fun b hb => by rw [hb]
 have HF := hJQ hf
 have HK := hJQ (kind_empty h.parts.kind hks)
 have HP2 : Hid (Calls Tryz.prog 102 #[.int .i64 3] (w.alloc (.cells #[.int .i64 3, .int .i64 n, .string s, .slice ka kn kc, .slice na ns.length nc, .slice a l.length c] 28)) fun e w' => e = .returned (.int .i64 (0))/\w' = w.alloc (.cells #[.int .i64 3, .int .i64 n, .string s, .slice ka kn kc, .slice na ns.length nc, .slice a l.length c] 28)) := rparts_any 3 _
 have HB2 : Hid (Calls Tryz.prog 105 #[.int .i64 3] (w.alloc (.cells #[.int .i64 3, .int .i64 n, .string s, .slice ka kn kc, .slice na ns.length nc, .slice a l.length c] 28)) fun e w' => e = .returned (.bool false)/\w' = w.alloc (.cells #[.int .i64 3, .int .i64 n, .string s, .slice ka kn kc, .slice na ns.length nc, .slice a l.length c] 28)) := opBinder_any 105 (.inr rfl) 3 _
 have hlt : w.heap.size < (w.alloc (.cells #[.int .i64 3, .int .i64 n, .string s, .slice ka kn kc, .slice na ns.length nc, .slice a l.length c] 28)).heap.size := by omega
 clear h hf HP HC0
 go_enter Tryz.func62, Tryz.ntmps62
 go_wp2_with fail
 refine HP2.out.mono ?_
 rintro e w1 ⟨rfl, rfl⟩
 clear HP2
 generalize w.alloc (.cells #[.int .i64 3, .int .i64 n, .string s, .slice ka kn kc, .slice na ns.length nc, .slice a l.length c] 28) = W0 at *
 by_cases h1 : (l.length : Int) = 0
 rotate_left
 ·have h1' : ((l.length : Int) != 0) = true := nNQ h1
  have HE := HF.out false (bFQ (fun hh => by
   obtain ⟨a1, _⟩ := node_parts hh
   exact h1 a1))
  clear HF HK
  go_wp2_with fail
  go_ret
  exact ⟨HE, hb0⟩
 have h1' : ((l.length : Int) != 0) = false := by rw [h1]; simp
 by_cases h2 : (ns.length : Int) = 0
 rotate_left
 ·have h2' : ((ns.length : Int) != 0) = true := nNQ h2
  have HE := HF.out false (bFQ (fun hh => by
   obtain ⟨_, _, _, _, a5⟩ := node_parts hh
   have a5 : ns.isEmpty = true := a5; exact h2 (by rw [List.isEmpty_iff] at a5; rw [a5]; rfl)))
  clear HF HK
  go_wp2_with fail
  go_ret
  exact ⟨HE, hb0⟩
 have h2' : ((ns.length : Int) != 0) = false := by rw [h2]; rfl
 have H2 : Hid (ns.isEmpty = true) := by cases ns with | nil => rfl | cons => simp at h2; omega
 by_cases h3 : n < 0
 ·have HE := HF.out false (bFQ (fun hh => by
   obtain ⟨_, a2, _⟩ := node_parts hh
   have a2 : (decide (0<=n) && decide (n<=20000)) = true := a2; simp only [Bool.and_eq_true, decide_eq_true_eq] at a2; omega))
  clear HF HK
  go_wp2_with fail
  go_ret
  exact ⟨HE, hb0⟩
 by_cases h4 : 20000 < n
 ·have HE := HF.out false (bFQ (fun hh => by
   obtain ⟨_, a2, _⟩ := node_parts hh
   have a2 : (decide (0<=n) && decide (n<=20000)) = true := a2; simp only [Bool.and_eq_true, decide_eq_true_eq] at a2; omega))
  clear HF HK
  go_wp2_with fail
  go_ret
  exact ⟨HE, hb0⟩
 by_cases h5 : s.size = 0
 rotate_left
 ·obtain ⟨s1, s2, s3⟩ := size_some h5
  have HE := HF.out false (bFQ (fun hh => by
   obtain ⟨_, _, a3, _⟩ := node_parts hh
   have a3 : (s.size == 0) = true := a3; exact h5 (beq_iff_eq.1 a3)))
  clear HF HK
  go_wp2_with fail
  go_ret
  exact ⟨HE, hb0⟩
 obtain rfl := size_zero h5
 go_wp2_with fail
 refine HB2.out.mono ?_
 rintro e w3 ⟨rfl, rfl⟩
 clear HB2
 by_cases h6 : (kn : Int) = 0
 ·have h6' : kn = 0 := by omega
  subst h6'
  have HE := HF.out true (node_yes (by rw [h1]; rfl) (show (decide (0<=n) && decide (n<=20000)) = true by rw [decide_eq_true (show 0<=n by omega), decide_eq_true (show n<=20000 by omega)]; rfl) rfl (show (pK k).l.isEmpty = true by rw [HK.out]; rfl) H2.out)
  clear HF HK
  go_wp2_with fail
  go_ret
  exact ⟨HE, hb0⟩
 ·have h6' : ((kn : Int) == 0) = false := nEQ h6
  have HE := HF.out false (bFQ (fun hh => by
   obtain ⟨_, _, _, a4, _⟩ := node_parts hh
   have a4 : (pK k).l.isEmpty = true := a4; rw [HK.out] at a4; exact h6 (by have := of_decide_eq_true a4; omega)))
  clear HF HK
  go_wp2_with fail
  go_ret
  exact ⟨HE, hb0⟩
theorem node_P (P : Nat->Prop) (op : Int) (m : Int) (gm : 0<=m) (n : Int) (s : ByteArray) (k : KindD) (nv : Value) (ns : List ByteArray) (lv : Value) (l : List ConD) (w : World) (h : IsCon P w (.mk op n s k nv ns lv l)) (hs : s.size<=1000) (hns : ∀ x ∈ ns, x.size<=1000) (hnl : ns.length<=1000000) (g0 : 1<=op) (g9 : op<=13) (g1 : op ≠ 1) (g2 : op ≠ 2) (g3 : op ≠ 3) (gp : partsC op ns.length = m) (gr : rpartsC op = m) (gb : binderB op = false) (gl : labelledB op = false) :
 Calls Tryz.prog 62 #[conV (.mk op n s k nv ns lv l)] w (NodeOk op n s k ns l.length w) := by
 obtain ⟨ka, kc, kn, na, nc, a, c, rfl, _, rfl, _, hks, hcv, hll, hnn, hb0, gC, hsz0, HP, HC0, c0, c1, c2, c3, c4, c5⟩ := open_box h
 rw [hcv]
 clear hcv
 have hf : ∀ b, nodeC cstB labsB op n s (pK k) ns l.length = b->Ending.returned (.bool b) = Ending.returned (.bool (nodeC cstB labsB op n s (pK k) ns l.length)) := fun b hb => by rw [hb]
 have HF := hJQ hf
 have NC := hJQ (node_cls (n := n) (s := s) (k := pK k) (ns := ns) (m := l.length) g1 g2 g3 gb gl)
 have GP := hJQ gp
 have GB := hJQ gb
 have e0 : (op < 1) = False := eq_false (by omega)
 have e9 : (13 < op) = False := eq_false (by omega)
 have e1 : (op == 1) = false := nEQ g1
 have e2 : (op == 2) = false := nEQ g2
 have e3 : (op == 3) = false := nEQ g3
 have e4 : (op != 2) = true := nNQ g2
 have e5 : (m < 0) = False := eq_false (by omega)
 have HK := hJQ (kind_empty h.parts.kind hks)
 have HP2 : Hid (Calls Tryz.prog 102 #[.int .i64 op] (w.alloc (.cells #[.int .i64 op, .int .i64 n, .string s, .slice ka kn kc, .slice na ns.length nc, .slice a l.length c] 28)) fun e w' => e = .returned (.int .i64 (m))/\w' = w.alloc (.cells #[.int .i64 op, .int .i64 n, .string s, .slice ka kn kc, .slice na ns.length nc, .slice a l.length c] 28)) := by show Calls _ _ _ _ _; rw [← gr]; exact rparts_any op _
 have HB2 : Hid (Calls Tryz.prog 105 #[.int .i64 op] (w.alloc (.cells #[.int .i64 op, .int .i64 n, .string s, .slice ka kn kc, .slice na ns.length nc, .slice a l.length c] 28)) fun e w' => e = .returned (.bool false)/\w' = w.alloc (.cells #[.int .i64 op, .int .i64 n, .string s, .slice ka kn kc, .slice na ns.length nc, .slice a l.length c] 28)) := by show Calls _ _ _ _ _; rw [← gb]; exact opBinder_any 105 (.inr rfl) op _
 have hlt : w.heap.size < (w.alloc (.cells #[.int .i64 op, .int .i64 n, .string s, .slice ka kn kc, .slice na ns.length nc, .slice a l.length c] 28)).heap.size := by omega
 clear h hf HP HC0 g0 g9 g1 g2 g3 gp gr gb gl
 go_enter Tryz.func62, Tryz.ntmps62
 go_wp2_with fail
 refine HP2.out.mono ?_
 rintro e w1 ⟨rfl, rfl⟩
 clear HP2
 generalize w.alloc (.cells #[.int .i64 op, .int .i64 n, .string s, .slice ka kn kc, .slice na ns.length nc, .slice a l.length c] 28) = W0 at *
 by_cases h1 : (l.length : Int) = m
 rotate_left
 ·have h1' : ((l.length : Int) != m) = true := nNQ h1
  have HE := HF.out false (bFQ (fun hh => by
   obtain ⟨a1, _⟩ := NC.out.1 hh
   exact h1 (a1.trans GP.out)))
  clear HF HK
  go_wp2_with fail
  go_ret
  exact ⟨HE, hb0⟩
 have h1' : ((l.length : Int) != m) = false := by rw [h1]; simp
 by_cases h2 : (ns.length : Int) = 0
 rotate_left
 ·have h2' : ((ns.length : Int) != 0) = true := nNQ h2
  have HE := HF.out false (bFQ (fun hh => by
   obtain ⟨_, _, _, _, a5⟩ := NC.out.1 hh
   have a5 : ns.isEmpty = true := a5; exact h2 (by rw [List.isEmpty_iff] at a5; rw [a5]; rfl)))
  clear HF HK
  go_wp2_with fail
  go_ret
  exact ⟨HE, hb0⟩
 have h2' : ((ns.length : Int) != 0) = false := by rw [h2]; rfl
 have H2 : Hid (ns.isEmpty = true) := by cases ns with | nil => rfl | cons => simp at h2; omega
 by_cases h3 : n = 0
 rotate_left
 ·have h3' : (n != 0) = true := nNQ h3
  have HE := HF.out false (bFQ (fun hh => by
   obtain ⟨_, a2, _⟩ := NC.out.1 hh
   have a2 : (n == 0) = true := a2; exact h3 (beq_iff_eq.1 a2)))
  clear HF HK
  go_wp2_with fail
  go_ret
  exact ⟨HE, hb0⟩
 subst h3
 by_cases h5 : s.size = 0
 rotate_left
 ·obtain ⟨s1, s2, s3⟩ := size_some h5
  have HE := HF.out false (bFQ (fun hh => by
   obtain ⟨_, _, a3, _⟩ := NC.out.1 hh
   have a3 : (s.size == 0) = true := a3; exact h5 (beq_iff_eq.1 a3)))
  clear HF HK
  go_wp2_with fail
  go_ret
  exact ⟨HE, hb0⟩
 obtain rfl := size_zero h5
 go_wp2_with fail
 refine HB2.out.mono ?_
 rintro e w3 ⟨rfl, rfl⟩
 clear HB2
 by_cases h6 : (kn : Int) = 0
 ·have h6' : kn = 0 := by omega
  subst h6'
  have HE := HF.out true (NC.out.2 ⟨h1.trans GP.out.symm, rfl, rfl, (show (pK k).l.isEmpty = true by rw [HK.out]; rfl), H2.out⟩)
  clear HF HK
  go_wp2_with fail
  go_ret
  exact ⟨HE, hb0⟩
 ·have h6' : ((kn : Int) == 0) = false := nEQ h6
  have HE := HF.out false (bFQ (fun hh => by
   obtain ⟨_, _, _, a4, _⟩ := NC.out.1 hh
   have a4 : (pK k).l.isEmpty = true := a4; rw [HK.out] at a4; exact h6 (by have := of_decide_eq_true a4; omega)))
  clear HF HK
  go_wp2_with fail
  go_ret
  exact ⟨HE, hb0⟩
theorem node_L (P : Nat->Prop) (op : Int) (n : Int) (s : ByteArray) (k : KindD) (nv : Value) (ns : List ByteArray) (lv : Value) (l : List ConD) (w : World) (h : IsCon P w (.mk op n s k nv ns lv l)) (hs : s.size<=1000) (hns : ∀ x ∈ ns, x.size<=1000) (hnl : ns.length<=1000000) (g0 : 1<=op) (g9 : op<=13) (g1 : op ≠ 1) (g2 : op ≠ 2) (g3 : op ≠ 3) (gp : partsC op ns.length = ns.length) (gr : rpartsC op = -1) (gb : binderB op = false) (gl : labelledB op = true) :
 Calls Tryz.prog 62 #[conV (.mk op n s k nv ns lv l)] w (NodeOk op n s k ns l.length w) := by
 obtain ⟨ka, kc, kn, na, nc, a, c, rfl, _, rfl, _, hks, hcv, hll, hnn, hb0, gC, hsz0, HP, HC0, c0, c1, c2, c3, c4, c5⟩ := open_box h
 rw [hcv]
 clear hcv
 have hf : ∀ b, nodeC cstB labsB op n s (pK k) ns l.length = b->Ending.returned (.bool b) = Ending.returned (.bool (nodeC cstB labsB op n s (pK k) ns l.length)) := fun b hb => by rw [hb]
 have HF := hJQ hf
 have NC := hJQ (node_cls (n := n) (s := s) (k := pK k) (ns := ns) (m := l.length) g1 g2 g3 gb gl)
 have GP := hJQ gp
 have GB := hJQ gb
 have e0 : (op < 1) = False := eq_false (by omega)
 have e9 : (13 < op) = False := eq_false (by omega)
 have e1 : (op == 1) = false := nEQ g1
 have e2 : (op == 2) = false := nEQ g2
 have e3 : (op == 3) = false := nEQ g3
 have e4 : (op != 2) = true := nNQ g2
 have HK := hJQ (kind_empty h.parts.kind hks)
 have HP2 : Hid (Calls Tryz.prog 102 #[.int .i64 op] (w.alloc (.cells #[.int .i64 op, .int .i64 n, .string s, .slice ka kn kc, .slice na ns.length nc, .slice a l.length c] 28)) fun e w' => e = .returned (.int .i64 (-1))/\w' = w.alloc (.cells #[.int .i64 op, .int .i64 n, .string s, .slice ka kn kc, .slice na ns.length nc, .slice a l.length c] 28)) := by show Calls _ _ _ _ _; rw [← gr]; exact rparts_any op _
 have HB2 : Hid (Calls Tryz.prog 105 #[.int .i64 op] (w.alloc (.cells #[.int .i64 op, .int .i64 n, .string s, .slice ka kn kc, .slice na ns.length nc, .slice a l.length c] 28)) fun e w' => e = .returned (.bool false)/\w' = w.alloc (.cells #[.int .i64 op, .int .i64 n, .string s, .slice ka kn kc, .slice na ns.length nc, .slice a l.length c] 28)) := by show Calls _ _ _ _ _; rw [← gb]; exact opBinder_any 105 (.inr rfl) op _
 have HLab := hJQ (labels_any P _ ns _ HP.out.names hnl hns)
 have hlt : w.heap.size < (w.alloc (.cells #[.int .i64 op, .int .i64 n, .string s, .slice ka kn kc, .slice na ns.length nc, .slice a l.length c] 28)).heap.size := by omega
 clear h hf HP HC0 g0 g9 g1 g2 g3 gp gr gb gl
 go_enter Tryz.func62, Tryz.ntmps62
 go_wp2_with fail
 refine HP2.out.mono ?_
 rintro e w1 ⟨rfl, rfl⟩
 clear HP2
 generalize w.alloc (.cells #[.int .i64 op, .int .i64 n, .string s, .slice ka kn kc, .slice na ns.length nc, .slice a l.length c] 28) = W0 at *
 by_cases h1 : (l.length : Int) = ns.length
 rotate_left
 ·have h1' : ((l.length : Int) != ns.length) = true := nNQ h1
  have HE := HF.out false (bFQ (fun hh => by
   obtain ⟨a1, _⟩ := NC.out.1 hh
   exact h1 (a1.trans GP.out)))
  clear HF HK HLab
  go_wp2_with fail
  go_ret
  exact ⟨HE, hb0⟩
 have h1' : ((l.length : Int) != ns.length) = false := by rw [h1]; simp
 obtain ⟨bl, hbl⟩ : ∃ b, labsB ns = b := ⟨_, rfl⟩
 rw [hbl] at HLab
 have HBL := hJQ hbl
 clear hbl
 go_wp2_with fail
 refine HLab.out.mono ?_
 rintro e w2 ⟨rfl, hb2⟩
 have hbw := hb0.trans (hb2.mono hb0.size)
 have g2 := (hb2.block _ hlt).trans gC
 obtain ⟨d0, d1, d2, d3, d4, d5⟩ := cnQ g2
 have HB2 := hJQ (opBinder_any 105 (.inr rfl) op w2)
 have HB2 : Hid (Calls Tryz.prog 105 #[.int .i64 op] w2 fun e w' => e = .returned (.bool false)/\w' = w2) := by show Calls _ _ _ _ _; rw [← GB.out]; exact HB2.out
 clear c0 c1 c2 c3 c4 c5 gC HLab hb2
 cases bl
 ·have HE := HF.out false (bFQ (fun hh => by
   obtain ⟨_, _, _, _, a5⟩ := NC.out.1 hh
   have a5 : labsB ns = true := a5
   rw [HBL.out] at a5; cases a5))
  clear HF HK
  go_wp2_with fail
  go_ret
  exact ⟨HE, hbw⟩
 by_cases h3 : n = 0
 rotate_left
 ·have h3' : (n != 0) = true := nNQ h3
  have HE := HF.out false (bFQ (fun hh => by
   obtain ⟨_, a2, _⟩ := NC.out.1 hh
   have a2 : (n == 0) = true := a2; exact h3 (beq_iff_eq.1 a2)))
  clear HF HK
  go_wp2_with fail
  go_ret
  exact ⟨HE, hbw⟩
 subst h3
 by_cases h5 : s.size = 0
 rotate_left
 ·obtain ⟨s1, s2, s3⟩ := size_some h5
  have HE := HF.out false (bFQ (fun hh => by
   obtain ⟨_, _, a3, _⟩ := NC.out.1 hh
   have a3 : (s.size == 0) = true := a3; exact h5 (beq_iff_eq.1 a3)))
  clear HF HK
  go_wp2_with fail
  go_ret
  exact ⟨HE, hbw⟩
 obtain rfl := size_zero h5
 go_wp2_with fail
 refine HB2.out.mono ?_
 rintro e w3 ⟨rfl, rfl⟩
 clear HB2
 by_cases h6 : (kn : Int) = 0
 ·have h6' : kn = 0 := by omega
  subst h6'
  have HE := HF.out true (NC.out.2 ⟨h1.trans GP.out.symm, rfl, rfl, (show (pK k).l.isEmpty = true by rw [HK.out]; rfl), HBL.out⟩)
  clear HF HK
  go_wp2_with fail
  go_ret
  exact ⟨HE, hbw⟩
 ·have h6' : ((kn : Int) == 0) = false := nEQ h6
  have HE := HF.out false (bFQ (fun hh => by
   obtain ⟨_, _, _, a4, _⟩ := NC.out.1 hh
   have a4 : (pK k).l.isEmpty = true := a4; rw [HK.out] at a4; exact h6 (by have := of_decide_eq_true a4; omega)))
  clear HF HK
  go_wp2_with fail
  go_ret
  exact ⟨HE, hbw⟩
theorem node_B (P : Nat->Prop) (op : Int) (n : Int) (s : ByteArray) (k : KindD) (nv : Value) (ns : List ByteArray) (lv : Value) (l : List ConD) (w : World) (h : IsCon P w (.mk op n s k nv ns lv l)) (hs : s.size<=1000) (hns : ∀ x ∈ ns, x.size<=1000) (hnl : ns.length<=1000000) (g0 : 1<=op) (g9 : op<=13) (g1 : op ≠ 1) (g2 : op ≠ 2) (g3 : op ≠ 3) (gp : partsC op ns.length = 1) (gr : rpartsC op = 1) (gb : binderB op = true) (gl : labelledB op = false) :
 Calls Tryz.prog 62 #[conV (.mk op n s k nv ns lv l)] w (NodeOk op n s k ns l.length w) := by
 obtain ⟨ka, kc, kn, na, nc, a, c, rfl, _, rfl, _, hks, hcv, hll, hnn, hb0, gC, hsz0, HP, HC0, c0, c1, c2, c3, c4, c5⟩ := open_box h
 rw [hcv]
 clear hcv
 have hf : ∀ b, nodeC cstB labsB op n s (pK k) ns l.length = b->Ending.returned (.bool b) = Ending.returned (.bool (nodeC cstB labsB op n s (pK k) ns l.length)) := fun b hb => by rw [hb]
 have HF := hJQ hf
 have NC := hJQ (node_cls (n := n) (s := s) (k := pK k) (ns := ns) (m := l.length) g1 g2 g3 gb gl)
 have GP := hJQ gp
 have GB := hJQ gb
 have e0 : (op < 1) = False := eq_false (by omega)
 have e9 : (13 < op) = False := eq_false (by omega)
 have e1 : (op == 1) = false := nEQ g1
 have e2 : (op == 2) = false := nEQ g2
 have e3 : (op == 3) = false := nEQ g3
 have e4 : (op != 2) = true := nNQ g2
 have HK := hJQ (kind_empty h.parts.kind hks)
 have HP2 : Hid (Calls Tryz.prog 102 #[.int .i64 op] (w.alloc (.cells #[.int .i64 op, .int .i64 n, .string s, .slice ka kn kc, .slice na ns.length nc, .slice a l.length c] 28)) fun e w' => e = .returned (.int .i64 (1))/\w' = w.alloc (.cells #[.int .i64 op, .int .i64 n, .string s, .slice ka kn kc, .slice na ns.length nc, .slice a l.length c] 28)) := by show Calls _ _ _ _ _; rw [← gr]; exact rparts_any op _
 have HB2 : Hid (Calls Tryz.prog 105 #[.int .i64 op] (w.alloc (.cells #[.int .i64 op, .int .i64 n, .string s, .slice ka kn kc, .slice na ns.length nc, .slice a l.length c] 28)) fun e w' => e = .returned (.bool true)/\w' = w.alloc (.cells #[.int .i64 op, .int .i64 n, .string s, .slice ka kn kc, .slice na ns.length nc, .slice a l.length c] 28)) := by show Calls _ _ _ _ _; rw [← gb]; exact opBinder_any 105 (.inr rfl) op _
 have HV : Hid (∀ W (_ : Below w.heap.size w W), Calls Tryz.prog 106 #[.agg #[.slice ka kn kc]] W fun e w' => e = .returned (.bool (validK (pK k)))/\Below W.heap.size W w') := fun W hW => by
  have := rkvalid_any P k W (isKind_below h.parts.kind hW)
  rw [show kindV k = .agg #[.slice ka kn kc] by show Value.agg #[k.v] = _; rw [hks]] at this
  exact this
 have hlt : w.heap.size < (w.alloc (.cells #[.int .i64 op, .int .i64 n, .string s, .slice ka kn kc, .slice na ns.length nc, .slice a l.length c] 28)).heap.size := by omega
 clear h hf HP HC0 g0 g9 g1 g2 g3 gp gr gb gl
 go_enter Tryz.func62, Tryz.ntmps62
 go_wp2_with fail
 refine HP2.out.mono ?_
 rintro e w1 ⟨rfl, rfl⟩
 clear HP2
 generalize w.alloc (.cells #[.int .i64 op, .int .i64 n, .string s, .slice ka kn kc, .slice na ns.length nc, .slice a l.length c] 28) = W0 at *
 by_cases h1 : (l.length : Int) = 1
 rotate_left
 ·have h1' : ((l.length : Int) != 1) = true := nNQ h1
  have HE := HF.out false (bFQ (fun hh => by
   obtain ⟨a1, _⟩ := NC.out.1 hh
   exact h1 (a1.trans GP.out)))
  clear HF HK
  go_wp2_with fail
  go_ret
  exact ⟨HE, hb0⟩
 have h1' : ((l.length : Int) != 1) = false := by rw [h1]; simp
 by_cases h2 : (ns.length : Int) = 0
 rotate_left
 ·have h2' : ((ns.length : Int) != 0) = true := nNQ h2
  have HE := HF.out false (bFQ (fun hh => by
   obtain ⟨_, _, _, _, a5⟩ := NC.out.1 hh
   have a5 : ns.isEmpty = true := a5; exact h2 (by rw [List.isEmpty_iff] at a5; rw [a5]; rfl)))
  clear HF HK
  go_wp2_with fail
  go_ret
  exact ⟨HE, hb0⟩
 have h2' : ((ns.length : Int) != 0) = false := by rw [h2]; rfl
 have H2 : Hid (ns.isEmpty = true) := by cases ns with | nil => rfl | cons => simp at h2; omega
 by_cases h3 : n = 0
 rotate_left
 ·have h3' : (n != 0) = true := nNQ h3
  have HE := HF.out false (bFQ (fun hh => by
   obtain ⟨_, a2, _⟩ := NC.out.1 hh
   have a2 : (n == 0) = true := a2; exact h3 (beq_iff_eq.1 a2)))
  clear HF HK
  go_wp2_with fail
  go_ret
  exact ⟨HE, hb0⟩
 subst h3
 by_cases h5 : s.size = 0
 rotate_left
 ·obtain ⟨s1, s2, s3⟩ := size_some h5
  have HE := HF.out false (bFQ (fun hh => by
   obtain ⟨_, _, a3, _⟩ := NC.out.1 hh
   have a3 : (s.size == 0) = true := a3; exact h5 (beq_iff_eq.1 a3)))
  clear HF HK
  go_wp2_with fail
  go_ret
  exact ⟨HE, hb0⟩
 obtain rfl := size_zero h5
 go_wp2_with fail
 refine HB2.out.mono ?_
 rintro e w3 ⟨rfl, rfl⟩
 clear HB2
 have HV2 := hJQ (HV.out _ hb0)
 have HE := hJQ (HF.out (validK (pK k)) (by
  cases hq : validK (pK k)
  ·exact Bool.eq_false_iff.2 (fun hh => by
    obtain ⟨_, _, _, a4, _⟩ := NC.out.1 hh
    have a4 : validK (pK k) = true := a4
    rw [hq] at a4; cases a4)
  ·exact NC.out.2 ⟨h1.trans GP.out.symm, rfl, rfl, hq, H2.out⟩))
 clear HF HV HK
 generalize validK (pK k) = q at *
 go_wp2_with fail
 refine HV2.out.mono ?_
 rintro e w4 ⟨rfl, hb4⟩
 have hbz := (hb0).trans (hb4.mono (hb0).size)
 clear HV2
 go_wp2_with fail
 go_ret
 exact ⟨HE.out, hbz⟩
theorem node_any (P : Nat->Prop) (x : ConD) (w : World) (h : IsCon P w x) (hs : x.s.size<=1000) (hns : ∀ y ∈ x.ns, y.size<=1000) (hnl : x.ns.length<=1000000) :
 Calls Tryz.prog 62 #[conV x] w (NodeOk x.op x.n x.s x.k x.ns x.l.length w) := by
 obtain ⟨op, n, s, k, nv, ns, lv, l⟩ := x
 by_cases hop : 1<=op/\op<=13
 ·obtain ⟨q1, q2⟩ := hop
  have hc : op = 1 ∨ op = 2 ∨ op = 3 ∨ op = 4 ∨ op = 5 ∨ op = 6 ∨ op = 7 ∨ op = 8 ∨ op = 9 ∨ op = 10 ∨ op = 11 ∨ op = 12 ∨ op = 13 := by omega
  rcases hc with rfl | rfl | rfl | rfl | rfl | rfl | rfl | rfl | rfl | rfl | rfl | rfl | rfl
  ·exact node_1 P n s k nv ns lv l w h hs hns hnl
  ·exact node_2 P n s k nv ns lv l w h hs hns hnl
  ·exact node_3 P n s k nv ns lv l w h hs hns hnl
  ·exact node_P P 4 0 (by decide) n s k nv ns lv l w h hs hns hnl (by decide) (by decide) (by decide) (by decide) (by decide) rfl rfl rfl rfl
  ·exact node_P P 5 0 (by decide) n s k nv ns lv l w h hs hns hnl (by decide) (by decide) (by decide) (by decide) (by decide) rfl rfl rfl rfl
  ·exact node_P P 6 2 (by decide) n s k nv ns lv l w h hs hns hnl (by decide) (by decide) (by decide) (by decide) (by decide) rfl rfl rfl rfl
  ·exact node_L P 7 n s k nv ns lv l w h hs hns hnl (by decide) (by decide) (by decide) (by decide) (by decide) rfl rfl rfl rfl
  ·exact node_L P 8 n s k nv ns lv l w h hs hns hnl (by decide) (by decide) (by decide) (by decide) (by decide) rfl rfl rfl rfl
  ·exact node_B P 9 n s k nv ns lv l w h hs hns hnl (by decide) (by decide) (by decide) (by decide) (by decide) rfl rfl rfl rfl
  ·exact node_B P 10 n s k nv ns lv l w h hs hns hnl (by decide) (by decide) (by decide) (by decide) (by decide) rfl rfl rfl rfl
  ·exact node_B P 11 n s k nv ns lv l w h hs hns hnl (by decide) (by decide) (by decide) (by decide) (by decide) rfl rfl rfl rfl
  ·exact node_P P 12 2 (by decide) n s k nv ns lv l w h hs hns hnl (by decide) (by decide) (by decide) (by decide) (by decide) rfl rfl rfl rfl
  ·exact node_B P 13 n s k nv ns lv l w h hs hns hnl (by decide) (by decide) (by decide) (by decide) (by decide) rfl rfl rfl rfl
 ·skip
  obtain ⟨ka, kc, kn, na, nc, a, c, rfl, _, rfl, _, hks, hcv, hll, hnn, hb0, gC, hsz0, HP, HC0, c0, c1, c2, c3, c4, c5⟩ := open_box h
  rw [hcv]
  clear hcv
  have h0 : nodeC cstB labsB op n s (pK k) ns l.length = false := Bool.eq_false_iff.2 (fun hh => by
   have a1 := (node_parts hh).1
   unfold partsC at a1
   rw [if_pos (show op < 1 ∨ 13 < op by omega)] at a1
   omega)
  have HE : Ending.returned (.bool false) = Ending.returned (.bool (nodeC cstB labsB op n s (pK k) ns l.length)) := by rw [h0]
  show Calls _ _ _ _ fun e w' => e = .returned (.bool (nodeC cstB labsB op n s (pK k) ns l.length))/\_
  have HE := hJQ HE
  clear h HP HC0 hks
  by_cases q1 : op < 1
  ·go_enter Tryz.func62, Tryz.ntmps62
   go_wp2_with fail
   go_ret
   exact ⟨HE.out, hb0⟩
  ·have q2 : 13 < op := by omega
   go_enter Tryz.func62, Tryz.ntmps62
   go_wp2_with fail
   go_ret
   exact ⟨HE.out, hb0⟩
end Go.Proofs.YtkiffgdinmpljaaGreatDoor
