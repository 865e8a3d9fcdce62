/- The reference's node, op by op. Printed by gen_node.py, expanded by mac.py. -/
import Derived.Test.YtkiffgdinmpljaaGreatDoorF10
set_option linter.unusedVariables false
set_option linter.unusedSimpArgs false
namespace Go.Proofs.YtkiffgdinmpljaaGreatDoor
open Go Go.RowKit
set_option maxHeartbeats 8000000
set_option maxRecDepth 100000
theorem size_zero {s : ByteArray} (h : s.size = 0) : s = ⟨#[]⟩ := by
 cases s with
 | mk d => congr 1; exact Array.eq_empty_of_size_eq_zero h
theorem size_some {s : ByteArray} (h : s.size ≠ 0) : s.toList.isEmpty = false/\¬ s.toList = []/\s ≠ ⟨#[]⟩ := by
 have h1 : ¬ s.toList = [] := fun e => h (by
  have h2 : s.toList.length = s.size := by rw [ByteArray.toList_eq, Array.length_toList]; rfl
  rw [e] at h2; exact h2.symm)
 refine ⟨?_, h1, fun e => h (by rw [e]; rfl)⟩
 cases hl : s.toList with
 | nil => exact absurd hl h1
 | cons _ _ => rfl
theorem kind_empty {P : Nat->Prop} {w : World} {k : KindD} (h : IsKind P w k) {ka : Option Addr} {kn kc : Nat} (hv : k.v = .slice ka kn kc) : (pK k).l.isEmpty = decide (kn = 0) := by
 obtain ⟨v, l⟩ := k
 obtain ⟨a, c, hv', _⟩ := h.parts.1
 have hv : v = .slice ka kn kc := hv
 rw [hv] at hv'
 obtain ⟨_, rfl, _⟩ := Value.slice.inj hv'
 rw [pureK_mk]
 cases l <;> simp [Kd.l]
def rpartsC (op : Int) : Int := if op = 6 ∨ op = 12 then 2 else if labelledB op = true then -1 else if binderB op = true then 1 else 0
theorem rparts_any (op : Int) (w : World) :
 Calls Tryz.prog 102 #[.int .i64 op] w fun e w' => e = .returned (.int .i64 (rpartsC op))/\w' = w := by
 have hf : ∀ b, rpartsC op = b->Ending.returned (.int .i64 b) = Ending.returned (.int .i64 (rpartsC op)) := fun b hb => by rw [hb]
 have HF := hJQ hf
 have HB := hJQ (opBinder_any 105 (.inr rfl) op w)
 obtain ⟨bb, hbb⟩ : ∃ b, binderB op = b := ⟨_, rfl⟩
 rw [hbb] at HB
 have HBB := hJQ hbb
 show Calls _ _ _ _ fun e w' => e = Ending.returned (.int .i64 (rpartsC op))/\_
 clear hf hbb
 by_cases q6 : op = 6
 ·subst q6
  go_enter Tryz.func102, Tryz.ntmps102
  go_wp2_with fail
  go_ret
  exact ⟨rfl, rfl⟩
 by_cases q12 : op = 12
 ·subst q12
  go_enter Tryz.func102, Tryz.ntmps102
  go_wp2_with fail
  go_ret
  exact ⟨rfl, rfl⟩
 by_cases q7 : op = 7
 ·subst q7
  go_enter Tryz.func102, Tryz.ntmps102
  go_wp2_with fail
  go_ret
  exact ⟨rfl, rfl⟩
 by_cases q8 : op = 8
 ·subst q8
  go_enter Tryz.func102, Tryz.ntmps102
  go_wp2_with fail
  go_ret
  exact ⟨rfl, rfl⟩
 have hlb : labelledB op = false := by simp [labelledB, q7, q8]
 have HE := hJQ (fun b (hb : (if bb = true then (1 : Int) else 0) = b) => HF.out b (by unfold rpartsC; rw [if_neg (by omega), hlb, HBB.out]; simpa using hb))
 clear HF HBB hlb
 have n6 : (op == 6) = false := beq_eq_false_iff_ne.2 q6
 have n12 : (op == 12) = false := beq_eq_false_iff_ne.2 q12
 have n7 : (op == 7) = false := beq_eq_false_iff_ne.2 q7
 have n8 : (op == 8) = false := beq_eq_false_iff_ne.2 q8
 cases bb
 all_goals
  go_enter Tryz.func102, Tryz.ntmps102
  go_wp2_with fail
  refine HB.out.mono ?_
  rintro e w2 ⟨rfl, rfl⟩
  go_wp2_with fail
  go_ret
  exact ⟨HE.out _ rfl, rfl⟩
theorem node_parts {op n : Int} {s : ByteArray} {k : Kd} {ns : List ByteArray} {m : Nat} (h : nodeC cstB labsB op n s k ns m = true) : (m : Int) = partsC op ns.length/\(if op = 1 ∨ op = 3 then decide (0<=n) && decide (n<=20000) else n == 0) = true/\(if op = 2 then cstB s else s.size == 0) = true/\(if binderB op || op == 2 then validK k else k.l.isEmpty) = true/\(if labelledB op = true then labsB ns else ns.isEmpty) = true := by
 unfold nodeC at h
 simp only [Bool.and_eq_true, decide_eq_true_eq] at h
 obtain ⟨⟨⟨⟨a1, a2⟩, a3⟩, a4⟩, a5⟩ := h
 exact ⟨a1, a2, a3, a4, a5⟩
theorem node_yes {op n : Int} {s : ByteArray} {k : Kd} {ns : List ByteArray} {m : Nat} (a1 : (m : Int) = partsC op ns.length) (a2 : (if op = 1 ∨ op = 3 then decide (0<=n) && decide (n<=20000) else n == 0) = true) (a3 : (if op = 2 then cstB s else s.size == 0) = true) (a4 : (if binderB op || op == 2 then validK k else k.l.isEmpty) = true) (a5 : (if labelledB op = true then labsB ns else ns.isEmpty) = true) : nodeC cstB labsB op n s k ns m = true := by
 unfold nodeC
 simp only [Bool.and_eq_true, decide_eq_true_eq]
 exact ⟨⟨⟨⟨a1, a2⟩, a3⟩, a4⟩, a5⟩
def NodeOk (op n : Int) (s : ByteArray) (k : KindD) (ns : List ByteArray) (m : Nat) (w : World) (e : Ending) (w' : World) : Prop := e = .returned (.bool (nodeC cstB labsB op n s (pK k) ns m))/\Below w.heap.size w w'
theorem node_1 (P : Nat->Prop) (n : Int) (s : ByteArray) (k : KindD) (nv : Value) (ns : List ByteArray) (lv : Value) (l : List ConD) (w : World) (h : IsCon P w (.mk 1 n s k nv ns lv l)) (hs : s.size<=1000) (hns : ∀ x ∈ ns, x.size<=1000) (hnl : ns.length<=1000000) :
 Calls Tryz.prog 62 #[conV (.mk 1 n s k nv ns lv l)] w (NodeOk 1 n s k ns l.length w) := by
 obtain ⟨op, hop⟩ : ∃ op : Int, op = 1 := ⟨_, rfl⟩
 rw [← hop] at h ⊢
 obtain ⟨ka, kc, kn, hks⟩ := iKQ h.parts.kind
 obtain ⟨na, nc, rfl, _⟩ := rSQ h.parts.names
 obtain ⟨a, c, rfl, _⟩ := rSQ h.parts.row
 rw [cVQ hks]
 have hll : l.length<=9223372036854775807 := by have h1 := h.parts.llen; have : maxLen = 9223372036854775807 := (by decide); omega
 have hnn : ns.length<=9223372036854775807 := by have h1 := h.parts.nlen; have : maxLen = 9223372036854775807 := (by decide); omega
 have hb0 : Below w.heap.size w (w.alloc (.cells #[.int .i64 op, .int .i64 n, .string s, .slice ka kn kc, .slice na ns.length nc, .slice a l.length c] 28)) := (Below.refl _ _).alloc (Nat.le_refl _) _
 have gC := nHQ w (.cells #[.int .i64 op, .int .i64 n, .string s, .slice ka kn kc, .slice na ns.length nc, .slice a l.length c] 28)
 have hsz0 : (w.alloc (.cells #[.int .i64 op, .int .i64 n, .string s, .slice ka kn kc, .slice na ns.length nc, .slice a l.length c] 28)).heap.size = w.heap.size + 1 := by simp
 obtain ⟨c0, c1, c2, c3, c4, c5⟩ := cnQ gC
 have HP := hJQ (iBQ h hb0).parts
 have HC0 := hJQ (iBQ h hb0)
 subst hop
 have hf : ∀ b, nodeC cstB labsB 1 n s (pK k) ns l.length = b->Ending.returned (.bool b) = Ending.returned (.bool (nodeC cstB labsB 1 n s (pK k) ns l.length)) := fun b hb => by rw [hb]
 have HF := hJQ hf
 have HK := hJQ (kind_empty h.parts.kind hks)
 have HP2 : Hid (Calls Tryz.prog 102 #[.int .i64 1] (w.alloc (.cells #[.int .i64 1, .int .i64 n, .string s, .slice ka kn kc, .slice na ns.length nc, .slice a l.length c] 28)) fun e w' => e = .returned (.int .i64 (0))/\w' = w.alloc (.cells #[.int .i64 1, .int .i64 n, .string s, .slice ka kn kc, .slice na ns.length nc, .slice a l.length c] 28)) := rparts_any 1 _
 have HB2 : Hid (Calls Tryz.prog 105 #[.int .i64 1] (w.alloc (.cells #[.int .i64 1, .int .i64 n, .string s, .slice ka kn kc, .slice na ns.length nc, .slice a l.length c] 28)) fun e w' => e = .returned (.bool false)/\w' = w.alloc (.cells #[.int .i64 1, .int .i64 n, .string s, .slice ka kn kc, .slice na ns.length nc, .slice a l.length c] 28)) := opBinder_any 105 (.inr rfl) 1 _
 have hlt : w.heap.size < (w.alloc (.cells #[.int .i64 1, .int .i64 n, .string s, .slice ka kn kc, .slice na ns.length nc, .slice a l.length c] 28)).heap.size := by omega
 clear h hf HP HC0
 go_enter Tryz.func62, Tryz.ntmps62
 go_wp2_with fail
 refine HP2.out.mono ?_
 rintro e w1 ⟨rfl, rfl⟩
 clear HP2
 generalize w.alloc (.cells #[.int .i64 1, .int .i64 n, .string s, .slice ka kn kc, .slice na ns.length nc, .slice a l.length c] 28) = W0 at *
 by_cases h1 : (l.length : Int) = 0
 rotate_left
 ·have h1' : ((l.length : Int) != 0) = true := bne_iff_ne.2 h1
  have HE := HF.out false (Bool.eq_false_iff.2 (fun hh => by
   obtain ⟨a1, _⟩ := node_parts hh
   exact h1 a1))
  clear HF HK
  go_wp2_with fail
  go_ret
  exact ⟨HE, hb0⟩
 have h1' : ((l.length : Int) != 0) = false := by rw [h1]; rfl
 by_cases h2 : (ns.length : Int) = 0
 rotate_left
 ·have h2' : ((ns.length : Int) != 0) = true := bne_iff_ne.2 h2
  have HE := HF.out false (Bool.eq_false_iff.2 (fun hh => by
   obtain ⟨_, _, _, _, a5⟩ := node_parts hh
   have a5 : ns.isEmpty = true := a5; exact h2 (by rw [List.isEmpty_iff] at a5; rw [a5]; rfl)))
  clear HF HK
  go_wp2_with fail
  go_ret
  exact ⟨HE, hb0⟩
 have h2' : ((ns.length : Int) != 0) = false := by rw [h2]; rfl
 have H2 : Hid (ns.isEmpty = true) := by cases ns with | nil => rfl | cons => simp at h2; omega
 by_cases h3 : n < 0
 ·have HE := HF.out false (Bool.eq_false_iff.2 (fun hh => by
   obtain ⟨_, a2, _⟩ := node_parts hh
   have a2 : (decide (0<=n) && decide (n<=20000)) = true := a2; simp only [Bool.and_eq_true, decide_eq_true_eq] at a2; omega))
  clear HF HK
  go_wp2_with fail
  go_ret
  exact ⟨HE, hb0⟩
 by_cases h4 : 20000 < n
 ·have HE := HF.out false (Bool.eq_false_iff.2 (fun hh => by
   obtain ⟨_, a2, _⟩ := node_parts hh
   have a2 : (decide (0<=n) && decide (n<=20000)) = true := a2; simp only [Bool.and_eq_true, decide_eq_true_eq] at a2; omega))
  clear HF HK
  go_wp2_with fail
  go_ret
  exact ⟨HE, hb0⟩
 by_cases h5 : s.size = 0
 rotate_left
 ·obtain ⟨s1, s2, s3⟩ := size_some h5
  have HE := HF.out false (Bool.eq_false_iff.2 (fun hh => by
   obtain ⟨_, _, a3, _⟩ := node_parts hh
   have a3 : (s.size == 0) = true := a3; exact h5 (beq_iff_eq.1 a3)))
  clear HF HK
  go_wp2_with fail
  go_ret
  exact ⟨HE, hb0⟩
 obtain rfl := size_zero h5
 go_wp2_with fail
 refine HB2.out.mono ?_
 rintro e w3 ⟨rfl, rfl⟩
 clear HB2
 by_cases h6 : (kn : Int) = 0
 ·have h6' : kn = 0 := by omega
  subst h6'
  have HE := HF.out true (node_yes (by rw [h1]; rfl) (show (decide (0<=n) && decide (n<=20000)) = true by rw [decide_eq_true (show 0<=n by omega), decide_eq_true (show n<=20000 by omega)]; rfl) rfl (show (pK k).l.isEmpty = true by rw [HK.out]; rfl) H2.out)
  clear HF HK
  go_wp2_with fail
  go_ret
  exact ⟨HE, hb0⟩
 ·have h6' : ((kn : Int) == 0) = false := beq_eq_false_iff_ne.2 h6
  have HE := HF.out false (Bool.eq_false_iff.2 (fun hh => by
   obtain ⟨_, _, _, a4, _⟩ := node_parts hh
   have a4 : (pK k).l.isEmpty = true := a4; rw [HK.out] at a4; exact h6 (by have := of_decide_eq_true a4; omega)))
  clear HF HK
  go_wp2_with fail
  go_ret
  exact ⟨HE, hb0⟩
theorem node_2 (P : Nat->Prop) (n : Int) (s : ByteArray) (k : KindD) (nv : Value) (ns : List ByteArray) (lv : Value) (l : List ConD) (w : World) (h : IsCon P w (.mk 2 n s k nv ns lv l)) (hs : s.size<=1000) (hns : ∀ x ∈ ns, x.size<=1000) (hnl : ns.length<=1000000) :
 Calls Tryz.prog 62 #[conV (.mk 2 n s k nv ns lv l)] w (NodeOk 2 n s k ns l.length w) := by
 obtain ⟨op, hop⟩ : ∃ op : Int, op = 2 := ⟨_, rfl⟩
 rw [← hop] at h ⊢
 obtain ⟨ka, kc, kn, hks⟩ := iKQ h.parts.kind
 obtain ⟨na, nc, rfl, _⟩ := rSQ h.parts.names
 obtain ⟨a, c, rfl, _⟩ := rSQ h.parts.row
 rw [cVQ hks]
 have hll : l.length<=9223372036854775807 := by have h1 := h.parts.llen; have : maxLen = 9223372036854775807 := (by decide); omega
 have hnn : ns.length<=9223372036854775807 := by have h1 := h.parts.nlen; have : maxLen = 9223372036854775807 := (by decide); omega
 have hb0 : Below w.heap.size w (w.alloc (.cells #[.int .i64 op, .int .i64 n, .string s, .slice ka kn kc, .slice na ns.length nc, .slice a l.length c] 28)) := (Below.refl _ _).alloc (Nat.le_refl _) _
 have gC := nHQ w (.cells #[.int .i64 op, .int .i64 n, .string s, .slice ka kn kc, .slice na ns.length nc, .slice a l.length c] 28)
 have hsz0 : (w.alloc (.cells #[.int .i64 op, .int .i64 n, .string s, .slice ka kn kc, .slice na ns.length nc, .slice a l.length c] 28)).heap.size = w.heap.size + 1 := by simp
 obtain ⟨c0, c1, c2, c3, c4, c5⟩ := cnQ gC
 have HP := hJQ (iBQ h hb0).parts
 have HC0 := hJQ (iBQ h hb0)
 subst hop
 have hf : ∀ b, nodeC cstB labsB 2 n s (pK k) ns l.length = b->Ending.returned (.bool b) = Ending.returned (.bool (nodeC cstB labsB 2 n s (pK k) ns l.length)) := fun b hb => by rw [hb]
 have HF := hJQ hf
 have HK := hJQ (kind_empty h.parts.kind hks)
 have HP2 : Hid (Calls Tryz.prog 102 #[.int .i64 2] (w.alloc (.cells #[.int .i64 2, .int .i64 n, .string s, .slice ka kn kc, .slice na ns.length nc, .slice a l.length c] 28)) fun e w' => e = .returned (.int .i64 (0))/\w' = w.alloc (.cells #[.int .i64 2, .int .i64 n, .string s, .slice ka kn kc, .slice na ns.length nc, .slice a l.length c] 28)) := rparts_any 2 _
 have HV : Hid (∀ W (_ : Below w.heap.size w W), Calls Tryz.prog 106 #[.agg #[.slice ka kn kc]] W fun e w' => e = .returned (.bool (validK (pK k)))/\Below W.heap.size W w') := fun W hW => by
  have := rkvalid_any P k W (isKind_below h.parts.kind hW)
  rw [show kindV k = .agg #[.slice ka kn kc] by show Value.agg #[k.v] = _; rw [hks]] at this
  exact this
 have HCN := hJQ (fun W => constName_any s W hs)
 have hlt : w.heap.size < (w.alloc (.cells #[.int .i64 2, .int .i64 n, .string s, .slice ka kn kc, .slice na ns.length nc, .slice a l.length c] 28)).heap.size := by omega
 clear h hf HP HC0
 go_enter Tryz.func62, Tryz.ntmps62
 go_wp2_with fail
 refine HP2.out.mono ?_
 rintro e w1 ⟨rfl, rfl⟩
 clear HP2
 generalize w.alloc (.cells #[.int .i64 2, .int .i64 n, .string s, .slice ka kn kc, .slice na ns.length nc, .slice a l.length c] 28) = W0 at *
 by_cases h1 : (l.length : Int) = 0
 rotate_left
 ·have h1' : ((l.length : Int) != 0) = true := bne_iff_ne.2 h1
  have HE := HF.out false (Bool.eq_false_iff.2 (fun hh => by
   obtain ⟨a1, _⟩ := node_parts hh
   exact h1 a1))
  clear HF HK
  go_wp2_with fail
  go_ret
  exact ⟨HE, hb0⟩
 have h1' : ((l.length : Int) != 0) = false := by rw [h1]; rfl
 by_cases h2 : (ns.length : Int) = 0
 rotate_left
 ·have h2' : ((ns.length : Int) != 0) = true := bne_iff_ne.2 h2
  have HE := HF.out false (Bool.eq_false_iff.2 (fun hh => by
   obtain ⟨_, _, _, _, a5⟩ := node_parts hh
   have a5 : ns.isEmpty = true := a5; exact h2 (by rw [List.isEmpty_iff] at a5; rw [a5]; rfl)))
  clear HF HK
  go_wp2_with fail
  go_ret
  exact ⟨HE, hb0⟩
 have h2' : ((ns.length : Int) != 0) = false := by rw [h2]; rfl
 have H2 : Hid (ns.isEmpty = true) := by cases ns with | nil => rfl | cons => simp at h2; omega
 by_cases h3 : n = 0
 rotate_left
 ·have h3' : (n != 0) = true := bne_iff_ne.2 h3
  have HE := HF.out false (Bool.eq_false_iff.2 (fun hh => by
   obtain ⟨_, a2, _⟩ := node_parts hh
   have a2 : (n == 0) = true := a2; exact h3 (beq_iff_eq.1 a2)))
  clear HF HK
  go_wp2_with fail
  go_ret
  exact ⟨HE, hb0⟩
 subst h3
 obtain ⟨bc, hbc⟩ : ∃ b, cstB s = b := ⟨_, rfl⟩
 have HCN' := hJQ (HCN.out W0)
 rw [hbc] at HCN'
 have HBC := hJQ hbc
 clear hbc HCN
 go_wp2_with fail
 refine HCN'.out.mono ?_
 rintro e w2 ⟨rfl, hb2⟩
 have hbw := hb0.trans (hb2.mono hb0.size)
 have g2 := (hb2.block _ hlt).trans gC
 obtain ⟨d0, d1, d2, d3, d4, d5⟩ := cnQ g2
 clear c0 c1 c2 c3 c4 c5 gC HCN' hb2
 cases bc
 ·have HE := HF.out false (Bool.eq_false_iff.2 (fun hh => by
   obtain ⟨_, _, a3, _⟩ := node_parts hh
   have a3 : cstB s = true := a3
   rw [HBC.out] at a3; cases a3))
  clear HF HK HV
  go_wp2_with fail
  go_ret
  exact ⟨HE, hbw⟩
 have HV2 := hJQ (HV.out _ hbw)
 have HE := hJQ (HF.out (validK (pK k)) (by
  cases hq : validK (pK k)
  ·exact Bool.eq_false_iff.2 (fun hh => by
    obtain ⟨_, _, _, a4, _⟩ := node_parts hh
    have a4 : validK (pK k) = true := a4
    rw [hq] at a4; cases a4)
  ·exact node_yes (by rw [h1]; rfl) rfl HBC.out hq H2.out))
 clear HF HV HK
 generalize validK (pK k) = q at *
 go_wp2_with fail
 refine HV2.out.mono ?_
 rintro e w4 ⟨rfl, hb4⟩
 have hbz := (hbw).trans (hb4.mono (hbw).size)
 clear HV2
 go_wp2_with fail
 go_ret
 exact ⟨HE.out, hbz⟩
theorem node_3 (P : Nat->Prop) (n : Int) (s : ByteArray) (k : KindD) (nv : Value) (ns : List ByteArray) (lv : Value) (l : List ConD) (w : World) (h : IsCon P w (.mk 3 n s k nv ns lv l)) (hs : s.size<=1000) (hns : ∀ x ∈ ns, x.size<=1000) (hnl : ns.length<=1000000) :
 Calls Tryz.prog 62 #[conV (.mk 3 n s k nv ns lv l)] w (NodeOk 3 n s k ns l.length w) := by
 obtain ⟨op, hop⟩ : ∃ op : Int, op = 3 := ⟨_, rfl⟩
 rw [← hop] at h ⊢
 obtain ⟨ka, kc, kn, hks⟩ := iKQ h.parts.kind
 obtain ⟨na, nc, rfl, _⟩ := rSQ h.parts.names
 obtain ⟨a, c, rfl, _⟩ := rSQ h.parts.row
 rw [cVQ hks]
 have hll : l.length<=9223372036854775807 := by have h1 := h.parts.llen; have : maxLen = 9223372036854775807 := (by decide); omega
 have hnn : ns.length<=9223372036854775807 := by have h1 := h.parts.nlen; have : maxLen = 9223372036854775807 := (by decide); omega
 have hb0 : Below w.heap.size w (w.alloc (.cells #[.int .i64 op, .int .i64 n, .string s, .slice ka kn kc, .slice na ns.length nc, .slice a l.length c] 28)) := (Below.refl _ _).alloc (Nat.le_refl _) _
 have gC := nHQ w (.cells #[.int .i64 op, .int .i64 n, .string s, .slice ka kn kc, .slice na ns.length nc, .slice a l.length c] 28)
 have hsz0 : (w.alloc (.cells #[.int .i64 op, .int .i64 n, .string s, .slice ka kn kc, .slice na ns.length nc, .slice a l.length c] 28)).heap.size = w.heap.size + 1 := by simp
 obtain ⟨c0, c1, c2, c3, c4, c5⟩ := cnQ gC
 have HP := hJQ (iBQ h hb0).parts
 have HC0 := hJQ (iBQ h hb0)
 subst hop
 have hf : ∀ b, nodeC cstB labsB 3 n s (pK k) ns l.length = b->Ending.returned (.bool b) = Ending.returned (.bool (nodeC cstB labsB 3 n s (pK k) ns l.length)) := fun b hb => by rw [hb]
 have HF := hJQ hf
 have HK := hJQ (kind_empty h.parts.kind hks)
 have HP2 : Hid (Calls Tryz.prog 102 #[.int .i64 3] (w.alloc (.cells #[.int .i64 3, .int .i64 n, .string s, .slice ka kn kc, .slice na ns.length nc, .slice a l.length c] 28)) fun e w' => e = .returned (.int .i64 (0))/\w' = w.alloc (.cells #[.int .i64 3, .int .i64 n, .string s, .slice ka kn kc, .slice na ns.length nc, .slice a l.length c] 28)) := rparts_any 3 _
 have HB2 : Hid (Calls Tryz.prog 105 #[.int .i64 3] (w.alloc (.cells #[.int .i64 3, .int .i64 n, .string s, .slice ka kn kc, .slice na ns.length nc, .slice a l.length c] 28)) fun e w' => e = .returned (.bool false)/\w' = w.alloc (.cells #[.int .i64 3, .int .i64 n, .string s, .slice ka kn kc, .slice na ns.length nc, .slice a l.length c] 28)) := opBinder_any 105 (.inr rfl) 3 _
 have hlt : w.heap.size < (w.alloc (.cells #[.int .i64 3, .int .i64 n, .string s, .slice ka kn kc, .slice na ns.length nc, .slice a l.length c] 28)).heap.size := by omega
 clear h hf HP HC0
 go_enter Tryz.func62, Tryz.ntmps62
 go_wp2_with fail
 refine HP2.out.mono ?_
 rintro e w1 ⟨rfl, rfl⟩
 clear HP2
 generalize w.alloc (.cells #[.int .i64 3, .int .i64 n, .string s, .slice ka kn kc, .slice na ns.length nc, .slice a l.length c] 28) = W0 at *
 by_cases h1 : (l.length : Int) = 0
 rotate_left
 ·have h1' : ((l.length : Int) != 0) = true := bne_iff_ne.2 h1
  have HE := HF.out false (Bool.eq_false_iff.2 (fun hh => by
   obtain ⟨a1, _⟩ := node_parts hh
   exact h1 a1))
  clear HF HK
  go_wp2_with fail
  go_ret
  exact ⟨HE, hb0⟩
 have h1' : ((l.length : Int) != 0) = false := by rw [h1]; rfl
 by_cases h2 : (ns.length : Int) = 0
 rotate_left
 ·have h2' : ((ns.length : Int) != 0) = true := bne_iff_ne.2 h2
  have HE := HF.out false (Bool.eq_false_iff.2 (fun hh => by
   obtain ⟨_, _, _, _, a5⟩ := node_parts hh
   have a5 : ns.isEmpty = true := a5; exact h2 (by rw [List.isEmpty_iff] at a5; rw [a5]; rfl)))
  clear HF HK
  go_wp2_with fail
  go_ret
  exact ⟨HE, hb0⟩
 have h2' : ((ns.length : Int) != 0) = false := by rw [h2]; rfl
 have H2 : Hid (ns.isEmpty = true) := by cases ns with | nil => rfl | cons => simp at h2; omega
 by_cases h3 : n < 0
 ·have HE := HF.out false (Bool.eq_false_iff.2 (fun hh => by
   obtain ⟨_, a2, _⟩ := node_parts hh
   have a2 : (decide (0<=n) && decide (n<=20000)) = true := a2; simp only [Bool.and_eq_true, decide_eq_true_eq] at a2; omega))
  clear HF HK
  go_wp2_with fail
  go_ret
  exact ⟨HE, hb0⟩
 by_cases h4 : 20000 < n
 ·have HE := HF.out false (Bool.eq_false_iff.2 (fun hh => by
   obtain ⟨_, a2, _⟩ := node_parts hh
   have a2 : (decide (0<=n) && decide (n<=20000)) = true := a2; simp only [Bool.and_eq_true, decide_eq_true_eq] at a2; omega))
  clear HF HK
  go_wp2_with fail
  go_ret
  exact ⟨HE, hb0⟩
 by_cases h5 : s.size = 0
 rotate_left
 ·obtain ⟨s1, s2, s3⟩ := size_some h5
  have HE := HF.out false (Bool.eq_false_iff.2 (fun hh => by
   obtain ⟨_, _, a3, _⟩ := node_parts hh
   have a3 : (s.size == 0) = true := a3; exact h5 (beq_iff_eq.1 a3)))
  clear HF HK
  go_wp2_with fail
  go_ret
  exact ⟨HE, hb0⟩
 obtain rfl := size_zero h5
 go_wp2_with fail
 refine HB2.out.mono ?_
 rintro e w3 ⟨rfl, rfl⟩
 clear HB2
 by_cases h6 : (kn : Int) = 0
 ·have h6' : kn = 0 := by omega
  subst h6'
  have HE := HF.out true (node_yes (by rw [h1]; rfl) (show (decide (0<=n) && decide (n<=20000)) = true by rw [decide_eq_true (show 0<=n by omega), decide_eq_true (show n<=20000 by omega)]; rfl) rfl (show (pK k).l.isEmpty = true by rw [HK.out]; rfl) H2.out)
  clear HF HK
  go_wp2_with fail
  go_ret
  exact ⟨HE, hb0⟩
 ·have h6' : ((kn : Int) == 0) = false := beq_eq_false_iff_ne.2 h6
  have HE := HF.out false (Bool.eq_false_iff.2 (fun hh => by
   obtain ⟨_, _, _, a4, _⟩ := node_parts hh
   have a4 : (pK k).l.isEmpty = true := a4; rw [HK.out] at a4; exact h6 (by have := of_decide_eq_true a4; omega)))
  clear HF HK
  go_wp2_with fail
  go_ret
  exact ⟨HE, hb0⟩
theorem node_4 (P : Nat->Prop) (n : Int) (s : ByteArray) (k : KindD) (nv : Value) (ns : List ByteArray) (lv : Value) (l : List ConD) (w : World) (h : IsCon P w (.mk 4 n s k nv ns lv l)) (hs : s.size<=1000) (hns : ∀ x ∈ ns, x.size<=1000) (hnl : ns.length<=1000000) :
 Calls Tryz.prog 62 #[conV (.mk 4 n s k nv ns lv l)] w (NodeOk 4 n s k ns l.length w) := by
 obtain ⟨op, hop⟩ : ∃ op : Int, op = 4 := ⟨_, rfl⟩
 rw [← hop] at h ⊢
 obtain ⟨ka, kc, kn, hks⟩ := iKQ h.parts.kind
 obtain ⟨na, nc, rfl, _⟩ := rSQ h.parts.names
 obtain ⟨a, c, rfl, _⟩ := rSQ h.parts.row
 rw [cVQ hks]
 have hll : l.length<=9223372036854775807 := by have h1 := h.parts.llen; have : maxLen = 9223372036854775807 := (by decide); omega
 have hnn : ns.length<=9223372036854775807 := by have h1 := h.parts.nlen; have : maxLen = 9223372036854775807 := (by decide); omega
 have hb0 : Below w.heap.size w (w.alloc (.cells #[.int .i64 op, .int .i64 n, .string s, .slice ka kn kc, .slice na ns.length nc, .slice a l.length c] 28)) := (Below.refl _ _).alloc (Nat.le_refl _) _
 have gC := nHQ w (.cells #[.int .i64 op, .int .i64 n, .string s, .slice ka kn kc, .slice na ns.length nc, .slice a l.length c] 28)
 have hsz0 : (w.alloc (.cells #[.int .i64 op, .int .i64 n, .string s, .slice ka kn kc, .slice na ns.length nc, .slice a l.length c] 28)).heap.size = w.heap.size + 1 := by simp
 obtain ⟨c0, c1, c2, c3, c4, c5⟩ := cnQ gC
 have HP := hJQ (iBQ h hb0).parts
 have HC0 := hJQ (iBQ h hb0)
 subst hop
 have hf : ∀ b, nodeC cstB labsB 4 n s (pK k) ns l.length = b->Ending.returned (.bool b) = Ending.returned (.bool (nodeC cstB labsB 4 n s (pK k) ns l.length)) := fun b hb => by rw [hb]
 have HF := hJQ hf
 have HK := hJQ (kind_empty h.parts.kind hks)
 have HP2 : Hid (Calls Tryz.prog 102 #[.int .i64 4] (w.alloc (.cells #[.int .i64 4, .int .i64 n, .string s, .slice ka kn kc, .slice na ns.length nc, .slice a l.length c] 28)) fun e w' => e = .returned (.int .i64 (0))/\w' = w.alloc (.cells #[.int .i64 4, .int .i64 n, .string s, .slice ka kn kc, .slice na ns.length nc, .slice a l.length c] 28)) := rparts_any 4 _
 have HB2 : Hid (Calls Tryz.prog 105 #[.int .i64 4] (w.alloc (.cells #[.int .i64 4, .int .i64 n, .string s, .slice ka kn kc, .slice na ns.length nc, .slice a l.length c] 28)) fun e w' => e = .returned (.bool false)/\w' = w.alloc (.cells #[.int .i64 4, .int .i64 n, .string s, .slice ka kn kc, .slice na ns.length nc, .slice a l.length c] 28)) := opBinder_any 105 (.inr rfl) 4 _
 have hlt : w.heap.size < (w.alloc (.cells #[.int .i64 4, .int .i64 n, .string s, .slice ka kn kc, .slice na ns.length nc, .slice a l.length c] 28)).heap.size := by omega
 clear h hf HP HC0
 go_enter Tryz.func62, Tryz.ntmps62
 go_wp2_with fail
 refine HP2.out.mono ?_
 rintro e w1 ⟨rfl, rfl⟩
 clear HP2
 generalize w.alloc (.cells #[.int .i64 4, .int .i64 n, .string s, .slice ka kn kc, .slice na ns.length nc, .slice a l.length c] 28) = W0 at *
 by_cases h1 : (l.length : Int) = 0
 rotate_left
 ·have h1' : ((l.length : Int) != 0) = true := bne_iff_ne.2 h1
  have HE := HF.out false (Bool.eq_false_iff.2 (fun hh => by
   obtain ⟨a1, _⟩ := node_parts hh
   exact h1 a1))
  clear HF HK
  go_wp2_with fail
  go_ret
  exact ⟨HE, hb0⟩
 have h1' : ((l.length : Int) != 0) = false := by rw [h1]; rfl
 by_cases h2 : (ns.length : Int) = 0
 rotate_left
 ·have h2' : ((ns.length : Int) != 0) = true := bne_iff_ne.2 h2
  have HE := HF.out false (Bool.eq_false_iff.2 (fun hh => by
   obtain ⟨_, _, _, _, a5⟩ := node_parts hh
   have a5 : ns.isEmpty = true := a5; exact h2 (by rw [List.isEmpty_iff] at a5; rw [a5]; rfl)))
  clear HF HK
  go_wp2_with fail
  go_ret
  exact ⟨HE, hb0⟩
 have h2' : ((ns.length : Int) != 0) = false := by rw [h2]; rfl
 have H2 : Hid (ns.isEmpty = true) := by cases ns with | nil => rfl | cons => simp at h2; omega
 by_cases h3 : n = 0
 rotate_left
 ·have h3' : (n != 0) = true := bne_iff_ne.2 h3
  have HE := HF.out false (Bool.eq_false_iff.2 (fun hh => by
   obtain ⟨_, a2, _⟩ := node_parts hh
   have a2 : (n == 0) = true := a2; exact h3 (beq_iff_eq.1 a2)))
  clear HF HK
  go_wp2_with fail
  go_ret
  exact ⟨HE, hb0⟩
 subst h3
 by_cases h5 : s.size = 0
 rotate_left
 ·obtain ⟨s1, s2, s3⟩ := size_some h5
  have HE := HF.out false (Bool.eq_false_iff.2 (fun hh => by
   obtain ⟨_, _, a3, _⟩ := node_parts hh
   have a3 : (s.size == 0) = true := a3; exact h5 (beq_iff_eq.1 a3)))
  clear HF HK
  go_wp2_with fail
  go_ret
  exact ⟨HE, hb0⟩
 obtain rfl := size_zero h5
 go_wp2_with fail
 refine HB2.out.mono ?_
 rintro e w3 ⟨rfl, rfl⟩
 clear HB2
 by_cases h6 : (kn : Int) = 0
 ·have h6' : kn = 0 := by omega
  subst h6'
  have HE := HF.out true (node_yes (by rw [h1]; rfl) rfl rfl (show (pK k).l.isEmpty = true by rw [HK.out]; rfl) H2.out)
  clear HF HK
  go_wp2_with fail
  go_ret
  exact ⟨HE, hb0⟩
 ·have h6' : ((kn : Int) == 0) = false := beq_eq_false_iff_ne.2 h6
  have HE := HF.out false (Bool.eq_false_iff.2 (fun hh => by
   obtain ⟨_, _, _, a4, _⟩ := node_parts hh
   have a4 : (pK k).l.isEmpty = true := a4; rw [HK.out] at a4; exact h6 (by have := of_decide_eq_true a4; omega)))
  clear HF HK
  go_wp2_with fail
  go_ret
  exact ⟨HE, hb0⟩
theorem node_5 (P : Nat->Prop) (n : Int) (s : ByteArray) (k : KindD) (nv : Value) (ns : List ByteArray) (lv : Value) (l : List ConD) (w : World) (h : IsCon P w (.mk 5 n s k nv ns lv l)) (hs : s.size<=1000) (hns : ∀ x ∈ ns, x.size<=1000) (hnl : ns.length<=1000000) :
 Calls Tryz.prog 62 #[conV (.mk 5 n s k nv ns lv l)] w (NodeOk 5 n s k ns l.length w) := by
 obtain ⟨op, hop⟩ : ∃ op : Int, op = 5 := ⟨_, rfl⟩
 rw [← hop] at h ⊢
 obtain ⟨ka, kc, kn, hks⟩ := iKQ h.parts.kind
 obtain ⟨na, nc, rfl, _⟩ := rSQ h.parts.names
 obtain ⟨a, c, rfl, _⟩ := rSQ h.parts.row
 rw [cVQ hks]
 have hll : l.length<=9223372036854775807 := by have h1 := h.parts.llen; have : maxLen = 9223372036854775807 := (by decide); omega
 have hnn : ns.length<=9223372036854775807 := by have h1 := h.parts.nlen; have : maxLen = 9223372036854775807 := (by decide); omega
 have hb0 : Below w.heap.size w (w.alloc (.cells #[.int .i64 op, .int .i64 n, .string s, .slice ka kn kc, .slice na ns.length nc, .slice a l.length c] 28)) := (Below.refl _ _).alloc (Nat.le_refl _) _
 have gC := nHQ w (.cells #[.int .i64 op, .int .i64 n, .string s, .slice ka kn kc, .slice na ns.length nc, .slice a l.length c] 28)
 have hsz0 : (w.alloc (.cells #[.int .i64 op, .int .i64 n, .string s, .slice ka kn kc, .slice na ns.length nc, .slice a l.length c] 28)).heap.size = w.heap.size + 1 := by simp
 obtain ⟨c0, c1, c2, c3, c4, c5⟩ := cnQ gC
 have HP := hJQ (iBQ h hb0).parts
 have HC0 := hJQ (iBQ h hb0)
 subst hop
 have hf : ∀ b, nodeC cstB labsB 5 n s (pK k) ns l.length = b->Ending.returned (.bool b) = Ending.returned (.bool (nodeC cstB labsB 5 n s (pK k) ns l.length)) := fun b hb => by rw [hb]
 have HF := hJQ hf
 have HK := hJQ (kind_empty h.parts.kind hks)
 have HP2 : Hid (Calls Tryz.prog 102 #[.int .i64 5] (w.alloc (.cells #[.int .i64 5, .int .i64 n, .string s, .slice ka kn kc, .slice na ns.length nc, .slice a l.length c] 28)) fun e w' => e = .returned (.int .i64 (0))/\w' = w.alloc (.cells #[.int .i64 5, .int .i64 n, .string s, .slice ka kn kc, .slice na ns.length nc, .slice a l.length c] 28)) := rparts_any 5 _
 have HB2 : Hid (Calls Tryz.prog 105 #[.int .i64 5] (w.alloc (.cells #[.int .i64 5, .int .i64 n, .string s, .slice ka kn kc, .slice na ns.length nc, .slice a l.length c] 28)) fun e w' => e = .returned (.bool false)/\w' = w.alloc (.cells #[.int .i64 5, .int .i64 n, .string s, .slice ka kn kc, .slice na ns.length nc, .slice a l.length c] 28)) := opBinder_any 105 (.inr rfl) 5 _
 have hlt : w.heap.size < (w.alloc (.cells #[.int .i64 5, .int .i64 n, .string s, .slice ka kn kc, .slice na ns.length nc, .slice a l.length c] 28)).heap.size := by omega
 clear h hf HP HC0
 go_enter Tryz.func62, Tryz.ntmps62
 go_wp2_with fail
 refine HP2.out.mono ?_
 rintro e w1 ⟨rfl, rfl⟩
 clear HP2
 generalize w.alloc (.cells #[.int .i64 5, .int .i64 n, .string s, .slice ka kn kc, .slice na ns.length nc, .slice a l.length c] 28) = W0 at *
 by_cases h1 : (l.length : Int) = 0
 rotate_left
 ·have h1' : ((l.length : Int) != 0) = true := bne_iff_ne.2 h1
  have HE := HF.out false (Bool.eq_false_iff.2 (fun hh => by
   obtain ⟨a1, _⟩ := node_parts hh
   exact h1 a1))
  clear HF HK
  go_wp2_with fail
  go_ret
  exact ⟨HE, hb0⟩
 have h1' : ((l.length : Int) != 0) = false := by rw [h1]; rfl
 by_cases h2 : (ns.length : Int) = 0
 rotate_left
 ·have h2' : ((ns.length : Int) != 0) = true := bne_iff_ne.2 h2
  have HE := HF.out false (Bool.eq_false_iff.2 (fun hh => by
   obtain ⟨_, _, _, _, a5⟩ := node_parts hh
   have a5 : ns.isEmpty = true := a5; exact h2 (by rw [List.isEmpty_iff] at a5; rw [a5]; rfl)))
  clear HF HK
  go_wp2_with fail
  go_ret
  exact ⟨HE, hb0⟩
 have h2' : ((ns.length : Int) != 0) = false := by rw [h2]; rfl
 have H2 : Hid (ns.isEmpty = true) := by cases ns with | nil => rfl | cons => simp at h2; omega
 by_cases h3 : n = 0
 rotate_left
 ·have h3' : (n != 0) = true := bne_iff_ne.2 h3
  have HE := HF.out false (Bool.eq_false_iff.2 (fun hh => by
   obtain ⟨_, a2, _⟩ := node_parts hh
   have a2 : (n == 0) = true := a2; exact h3 (beq_iff_eq.1 a2)))
  clear HF HK
  go_wp2_with fail
  go_ret
  exact ⟨HE, hb0⟩
 subst h3
 by_cases h5 : s.size = 0
 rotate_left
 ·obtain ⟨s1, s2, s3⟩ := size_some h5
  have HE := HF.out false (Bool.eq_false_iff.2 (fun hh => by
   obtain ⟨_, _, a3, _⟩ := node_parts hh
   have a3 : (s.size == 0) = true := a3; exact h5 (beq_iff_eq.1 a3)))
  clear HF HK
  go_wp2_with fail
  go_ret
  exact ⟨HE, hb0⟩
 obtain rfl := size_zero h5
 go_wp2_with fail
 refine HB2.out.mono ?_
 rintro e w3 ⟨rfl, rfl⟩
 clear HB2
 by_cases h6 : (kn : Int) = 0
 ·have h6' : kn = 0 := by omega
  subst h6'
  have HE := HF.out true (node_yes (by rw [h1]; rfl) rfl rfl (show (pK k).l.isEmpty = true by rw [HK.out]; rfl) H2.out)
  clear HF HK
  go_wp2_with fail
  go_ret
  exact ⟨HE, hb0⟩
 ·have h6' : ((kn : Int) == 0) = false := beq_eq_false_iff_ne.2 h6
  have HE := HF.out false (Bool.eq_false_iff.2 (fun hh => by
   obtain ⟨_, _, _, a4, _⟩ := node_parts hh
   have a4 : (pK k).l.isEmpty = true := a4; rw [HK.out] at a4; exact h6 (by have := of_decide_eq_true a4; omega)))
  clear HF HK
  go_wp2_with fail
  go_ret
  exact ⟨HE, hb0⟩
theorem node_6 (P : Nat->Prop) (n : Int) (s : ByteArray) (k : KindD) (nv : Value) (ns : List ByteArray) (lv : Value) (l : List ConD) (w : World) (h : IsCon P w (.mk 6 n s k nv ns lv l)) (hs : s.size<=1000) (hns : ∀ x ∈ ns, x.size<=1000) (hnl : ns.length<=1000000) :
 Calls Tryz.prog 62 #[conV (.mk 6 n s k nv ns lv l)] w (NodeOk 6 n s k ns l.length w) := by
 obtain ⟨op, hop⟩ : ∃ op : Int, op = 6 := ⟨_, rfl⟩
 rw [← hop] at h ⊢
 obtain ⟨ka, kc, kn, hks⟩ := iKQ h.parts.kind
 obtain ⟨na, nc, rfl, _⟩ := rSQ h.parts.names
 obtain ⟨a, c, rfl, _⟩ := rSQ h.parts.row
 rw [cVQ hks]
 have hll : l.length<=9223372036854775807 := by have h1 := h.parts.llen; have : maxLen = 9223372036854775807 := (by decide); omega
 have hnn : ns.length<=9223372036854775807 := by have h1 := h.parts.nlen; have : maxLen = 9223372036854775807 := (by decide); omega
 have hb0 : Below w.heap.size w (w.alloc (.cells #[.int .i64 op, .int .i64 n, .string s, .slice ka kn kc, .slice na ns.length nc, .slice a l.length c] 28)) := (Below.refl _ _).alloc (Nat.le_refl _) _
 have gC := nHQ w (.cells #[.int .i64 op, .int .i64 n, .string s, .slice ka kn kc, .slice na ns.length nc, .slice a l.length c] 28)
 have hsz0 : (w.alloc (.cells #[.int .i64 op, .int .i64 n, .string s, .slice ka kn kc, .slice na ns.length nc, .slice a l.length c] 28)).heap.size = w.heap.size + 1 := by simp
 obtain ⟨c0, c1, c2, c3, c4, c5⟩ := cnQ gC
 have HP := hJQ (iBQ h hb0).parts
 have HC0 := hJQ (iBQ h hb0)
 subst hop
 have hf : ∀ b, nodeC cstB labsB 6 n s (pK k) ns l.length = b->Ending.returned (.bool b) = Ending.returned (.bool (nodeC cstB labsB 6 n s (pK k) ns l.length)) := fun b hb => by rw [hb]
 have HF := hJQ hf
 have HK := hJQ (kind_empty h.parts.kind hks)
 have HP2 : Hid (Calls Tryz.prog 102 #[.int .i64 6] (w.alloc (.cells #[.int .i64 6, .int .i64 n, .string s, .slice ka kn kc, .slice na ns.length nc, .slice a l.length c] 28)) fun e w' => e = .returned (.int .i64 (2))/\w' = w.alloc (.cells #[.int .i64 6, .int .i64 n, .string s, .slice ka kn kc, .slice na ns.length nc, .slice a l.length c] 28)) := rparts_any 6 _
 have HB2 : Hid (Calls Tryz.prog 105 #[.int .i64 6] (w.alloc (.cells #[.int .i64 6, .int .i64 n, .string s, .slice ka kn kc, .slice na ns.length nc, .slice a l.length c] 28)) fun e w' => e = .returned (.bool false)/\w' = w.alloc (.cells #[.int .i64 6, .int .i64 n, .string s, .slice ka kn kc, .slice na ns.length nc, .slice a l.length c] 28)) := opBinder_any 105 (.inr rfl) 6 _
 have hlt : w.heap.size < (w.alloc (.cells #[.int .i64 6, .int .i64 n, .string s, .slice ka kn kc, .slice na ns.length nc, .slice a l.length c] 28)).heap.size := by omega
 clear h hf HP HC0
 go_enter Tryz.func62, Tryz.ntmps62
 go_wp2_with fail
 refine HP2.out.mono ?_
 rintro e w1 ⟨rfl, rfl⟩
 clear HP2
 generalize w.alloc (.cells #[.int .i64 6, .int .i64 n, .string s, .slice ka kn kc, .slice na ns.length nc, .slice a l.length c] 28) = W0 at *
 by_cases h1 : (l.length : Int) = 2
 rotate_left
 ·have h1' : ((l.length : Int) != 2) = true := bne_iff_ne.2 h1
  have HE := HF.out false (Bool.eq_false_iff.2 (fun hh => by
   obtain ⟨a1, _⟩ := node_parts hh
   exact h1 a1))
  clear HF HK
  go_wp2_with fail
  go_ret
  exact ⟨HE, hb0⟩
 have h1' : ((l.length : Int) != 2) = false := by rw [h1]; rfl
 by_cases h2 : (ns.length : Int) = 0
 rotate_left
 ·have h2' : ((ns.length : Int) != 0) = true := bne_iff_ne.2 h2
  have HE := HF.out false (Bool.eq_false_iff.2 (fun hh => by
   obtain ⟨_, _, _, _, a5⟩ := node_parts hh
   have a5 : ns.isEmpty = true := a5; exact h2 (by rw [List.isEmpty_iff] at a5; rw [a5]; rfl)))
  clear HF HK
  go_wp2_with fail
  go_ret
  exact ⟨HE, hb0⟩
 have h2' : ((ns.length : Int) != 0) = false := by rw [h2]; rfl
 have H2 : Hid (ns.isEmpty = true) := by cases ns with | nil => rfl | cons => simp at h2; omega
 by_cases h3 : n = 0
 rotate_left
 ·have h3' : (n != 0) = true := bne_iff_ne.2 h3
  have HE := HF.out false (Bool.eq_false_iff.2 (fun hh => by
   obtain ⟨_, a2, _⟩ := node_parts hh
   have a2 : (n == 0) = true := a2; exact h3 (beq_iff_eq.1 a2)))
  clear HF HK
  go_wp2_with fail
  go_ret
  exact ⟨HE, hb0⟩
 subst h3
 by_cases h5 : s.size = 0
 rotate_left
 ·obtain ⟨s1, s2, s3⟩ := size_some h5
  have HE := HF.out false (Bool.eq_false_iff.2 (fun hh => by
   obtain ⟨_, _, a3, _⟩ := node_parts hh
   have a3 : (s.size == 0) = true := a3; exact h5 (beq_iff_eq.1 a3)))
  clear HF HK
  go_wp2_with fail
  go_ret
  exact ⟨HE, hb0⟩
 obtain rfl := size_zero h5
 go_wp2_with fail
 refine HB2.out.mono ?_
 rintro e w3 ⟨rfl, rfl⟩
 clear HB2
 by_cases h6 : (kn : Int) = 0
 ·have h6' : kn = 0 := by omega
  subst h6'
  have HE := HF.out true (node_yes (by rw [h1]; rfl) rfl rfl (show (pK k).l.isEmpty = true by rw [HK.out]; rfl) H2.out)
  clear HF HK
  go_wp2_with fail
  go_ret
  exact ⟨HE, hb0⟩
 ·have h6' : ((kn : Int) == 0) = false := beq_eq_false_iff_ne.2 h6
  have HE := HF.out false (Bool.eq_false_iff.2 (fun hh => by
   obtain ⟨_, _, _, a4, _⟩ := node_parts hh
   have a4 : (pK k).l.isEmpty = true := a4; rw [HK.out] at a4; exact h6 (by have := of_decide_eq_true a4; omega)))
  clear HF HK
  go_wp2_with fail
  go_ret
  exact ⟨HE, hb0⟩
theorem node_7 (P : Nat->Prop) (n : Int) (s : ByteArray) (k : KindD) (nv : Value) (ns : List ByteArray) (lv : Value) (l : List ConD) (w : World) (h : IsCon P w (.mk 7 n s k nv ns lv l)) (hs : s.size<=1000) (hns : ∀ x ∈ ns, x.size<=1000) (hnl : ns.length<=1000000) :
 Calls Tryz.prog 62 #[conV (.mk 7 n s k nv ns lv l)] w (NodeOk 7 n s k ns l.length w) := by
 obtain ⟨op, hop⟩ : ∃ op : Int, op = 7 := ⟨_, rfl⟩
 rw [← hop] at h ⊢
 obtain ⟨ka, kc, kn, hks⟩ := iKQ h.parts.kind
 obtain ⟨na, nc, rfl, _⟩ := rSQ h.parts.names
 obtain ⟨a, c, rfl, _⟩ := rSQ h.parts.row
 rw [cVQ hks]
 have hll : l.length<=9223372036854775807 := by have h1 := h.parts.llen; have : maxLen = 9223372036854775807 := (by decide); omega
 have hnn : ns.length<=9223372036854775807 := by have h1 := h.parts.nlen; have : maxLen = 9223372036854775807 := (by decide); omega
 have hb0 : Below w.heap.size w (w.alloc (.cells #[.int .i64 op, .int .i64 n, .string s, .slice ka kn kc, .slice na ns.length nc, .slice a l.length c] 28)) := (Below.refl _ _).alloc (Nat.le_refl _) _
 have gC := nHQ w (.cells #[.int .i64 op, .int .i64 n, .string s, .slice ka kn kc, .slice na ns.length nc, .slice a l.length c] 28)
 have hsz0 : (w.alloc (.cells #[.int .i64 op, .int .i64 n, .string s, .slice ka kn kc, .slice na ns.length nc, .slice a l.length c] 28)).heap.size = w.heap.size + 1 := by simp
 obtain ⟨c0, c1, c2, c3, c4, c5⟩ := cnQ gC
 have HP := hJQ (iBQ h hb0).parts
 have HC0 := hJQ (iBQ h hb0)
 subst hop
 have hf : ∀ b, nodeC cstB labsB 7 n s (pK k) ns l.length = b->Ending.returned (.bool b) = Ending.returned (.bool (nodeC cstB labsB 7 n s (pK k) ns l.length)) := fun b hb => by rw [hb]
 have HF := hJQ hf
 have HK := hJQ (kind_empty h.parts.kind hks)
 have HP2 : Hid (Calls Tryz.prog 102 #[.int .i64 7] (w.alloc (.cells #[.int .i64 7, .int .i64 n, .string s, .slice ka kn kc, .slice na ns.length nc, .slice a l.length c] 28)) fun e w' => e = .returned (.int .i64 (-1))/\w' = w.alloc (.cells #[.int .i64 7, .int .i64 n, .string s, .slice ka kn kc, .slice na ns.length nc, .slice a l.length c] 28)) := rparts_any 7 _
 have HB2 : Hid (Calls Tryz.prog 105 #[.int .i64 7] (w.alloc (.cells #[.int .i64 7, .int .i64 n, .string s, .slice ka kn kc, .slice na ns.length nc, .slice a l.length c] 28)) fun e w' => e = .returned (.bool false)/\w' = w.alloc (.cells #[.int .i64 7, .int .i64 n, .string s, .slice ka kn kc, .slice na ns.length nc, .slice a l.length c] 28)) := opBinder_any 105 (.inr rfl) 7 _
 have HLab := hJQ (labels_any P _ ns _ HP.out.names hnl hns)
 have hlt : w.heap.size < (w.alloc (.cells #[.int .i64 7, .int .i64 n, .string s, .slice ka kn kc, .slice na ns.length nc, .slice a l.length c] 28)).heap.size := by omega
 clear h hf HP HC0
 go_enter Tryz.func62, Tryz.ntmps62
 go_wp2_with fail
 refine HP2.out.mono ?_
 rintro e w1 ⟨rfl, rfl⟩
 clear HP2
 generalize w.alloc (.cells #[.int .i64 7, .int .i64 n, .string s, .slice ka kn kc, .slice na ns.length nc, .slice a l.length c] 28) = W0 at *
 by_cases h1 : (l.length : Int) = ns.length
 rotate_left
 ·have h1' : ((l.length : Int) != ns.length) = true := bne_iff_ne.2 h1
  have HE := HF.out false (Bool.eq_false_iff.2 (fun hh => by
   obtain ⟨a1, _⟩ := node_parts hh
   exact h1 a1))
  clear HF HK HLab
  go_wp2_with fail
  go_ret
  exact ⟨HE, hb0⟩
 have h1' : ((l.length : Int) != ns.length) = false := by rw [h1]; simp
 obtain ⟨bl, hbl⟩ : ∃ b, labsB ns = b := ⟨_, rfl⟩
 rw [hbl] at HLab
 have HBL := hJQ hbl
 clear hbl
 go_wp2_with fail
 refine HLab.out.mono ?_
 rintro e w2 ⟨rfl, hb2⟩
 have hbw := hb0.trans (hb2.mono hb0.size)
 have g2 := (hb2.block _ hlt).trans gC
 obtain ⟨d0, d1, d2, d3, d4, d5⟩ := cnQ g2
 have HB2 := hJQ (opBinder_any 105 (.inr rfl) 7 w2)
 have HB2 : Hid (Calls Tryz.prog 105 #[.int .i64 7] w2 fun e w' => e = .returned (.bool false)/\w' = w2) := HB2
 clear c0 c1 c2 c3 c4 c5 gC HLab hb2
 cases bl
 ·have HE := HF.out false (Bool.eq_false_iff.2 (fun hh => by
   obtain ⟨_, _, _, _, a5⟩ := node_parts hh
   have a5 : labsB ns = true := a5
   rw [HBL.out] at a5; cases a5))
  clear HF HK
  go_wp2_with fail
  go_ret
  exact ⟨HE, hbw⟩
 by_cases h3 : n = 0
 rotate_left
 ·have h3' : (n != 0) = true := bne_iff_ne.2 h3
  have HE := HF.out false (Bool.eq_false_iff.2 (fun hh => by
   obtain ⟨_, a2, _⟩ := node_parts hh
   have a2 : (n == 0) = true := a2; exact h3 (beq_iff_eq.1 a2)))
  clear HF HK
  go_wp2_with fail
  go_ret
  exact ⟨HE, hbw⟩
 subst h3
 by_cases h5 : s.size = 0
 rotate_left
 ·obtain ⟨s1, s2, s3⟩ := size_some h5
  have HE := HF.out false (Bool.eq_false_iff.2 (fun hh => by
   obtain ⟨_, _, a3, _⟩ := node_parts hh
   have a3 : (s.size == 0) = true := a3; exact h5 (beq_iff_eq.1 a3)))
  clear HF HK
  go_wp2_with fail
  go_ret
  exact ⟨HE, hbw⟩
 obtain rfl := size_zero h5
 go_wp2_with fail
 refine HB2.out.mono ?_
 rintro e w3 ⟨rfl, rfl⟩
 clear HB2
 by_cases h6 : (kn : Int) = 0
 ·have h6' : kn = 0 := by omega
  subst h6'
  have HE := HF.out true (node_yes (by rw [h1]; rfl) rfl rfl (show (pK k).l.isEmpty = true by rw [HK.out]; rfl) HBL.out)
  clear HF HK
  go_wp2_with fail
  go_ret
  exact ⟨HE, hbw⟩
 ·have h6' : ((kn : Int) == 0) = false := beq_eq_false_iff_ne.2 h6
  have HE := HF.out false (Bool.eq_false_iff.2 (fun hh => by
   obtain ⟨_, _, _, a4, _⟩ := node_parts hh
   have a4 : (pK k).l.isEmpty = true := a4; rw [HK.out] at a4; exact h6 (by have := of_decide_eq_true a4; omega)))
  clear HF HK
  go_wp2_with fail
  go_ret
  exact ⟨HE, hbw⟩
theorem node_8 (P : Nat->Prop) (n : Int) (s : ByteArray) (k : KindD) (nv : Value) (ns : List ByteArray) (lv : Value) (l : List ConD) (w : World) (h : IsCon P w (.mk 8 n s k nv ns lv l)) (hs : s.size<=1000) (hns : ∀ x ∈ ns, x.size<=1000) (hnl : ns.length<=1000000) :
 Calls Tryz.prog 62 #[conV (.mk 8 n s k nv ns lv l)] w (NodeOk 8 n s k ns l.length w) := by
 obtain ⟨op, hop⟩ : ∃ op : Int, op = 8 := ⟨_, rfl⟩
 rw [← hop] at h ⊢
 obtain ⟨ka, kc, kn, hks⟩ := iKQ h.parts.kind
 obtain ⟨na, nc, rfl, _⟩ := rSQ h.parts.names
 obtain ⟨a, c, rfl, _⟩ := rSQ h.parts.row
 rw [cVQ hks]
 have hll : l.length<=9223372036854775807 := by have h1 := h.parts.llen; have : maxLen = 9223372036854775807 := (by decide); omega
 have hnn : ns.length<=9223372036854775807 := by have h1 := h.parts.nlen; have : maxLen = 9223372036854775807 := (by decide); omega
 have hb0 : Below w.heap.size w (w.alloc (.cells #[.int .i64 op, .int .i64 n, .string s, .slice ka kn kc, .slice na ns.length nc, .slice a l.length c] 28)) := (Below.refl _ _).alloc (Nat.le_refl _) _
 have gC := nHQ w (.cells #[.int .i64 op, .int .i64 n, .string s, .slice ka kn kc, .slice na ns.length nc, .slice a l.length c] 28)
 have hsz0 : (w.alloc (.cells #[.int .i64 op, .int .i64 n, .string s, .slice ka kn kc, .slice na ns.length nc, .slice a l.length c] 28)).heap.size = w.heap.size + 1 := by simp
 obtain ⟨c0, c1, c2, c3, c4, c5⟩ := cnQ gC
 have HP := hJQ (iBQ h hb0).parts
 have HC0 := hJQ (iBQ h hb0)
 subst hop
 have hf : ∀ b, nodeC cstB labsB 8 n s (pK k) ns l.length = b->Ending.returned (.bool b) = Ending.returned (.bool (nodeC cstB labsB 8 n s (pK k) ns l.length)) := fun b hb => by rw [hb]
 have HF := hJQ hf
 have HK := hJQ (kind_empty h.parts.kind hks)
 have HP2 : Hid (Calls Tryz.prog 102 #[.int .i64 8] (w.alloc (.cells #[.int .i64 8, .int .i64 n, .string s, .slice ka kn kc, .slice na ns.length nc, .slice a l.length c] 28)) fun e w' => e = .returned (.int .i64 (-1))/\w' = w.alloc (.cells #[.int .i64 8, .int .i64 n, .string s, .slice ka kn kc, .slice na ns.length nc, .slice a l.length c] 28)) := rparts_any 8 _
 have HB2 : Hid (Calls Tryz.prog 105 #[.int .i64 8] (w.alloc (.cells #[.int .i64 8, .int .i64 n, .string s, .slice ka kn kc, .slice na ns.length nc, .slice a l.length c] 28)) fun e w' => e = .returned (.bool false)/\w' = w.alloc (.cells #[.int .i64 8, .int .i64 n, .string s, .slice ka kn kc, .slice na ns.length nc, .slice a l.length c] 28)) := opBinder_any 105 (.inr rfl) 8 _
 have HLab := hJQ (labels_any P _ ns _ HP.out.names hnl hns)
 have hlt : w.heap.size < (w.alloc (.cells #[.int .i64 8, .int .i64 n, .string s, .slice ka kn kc, .slice na ns.length nc, .slice a l.length c] 28)).heap.size := by omega
 clear h hf HP HC0
 go_enter Tryz.func62, Tryz.ntmps62
 go_wp2_with fail
 refine HP2.out.mono ?_
 rintro e w1 ⟨rfl, rfl⟩
 clear HP2
 generalize w.alloc (.cells #[.int .i64 8, .int .i64 n, .string s, .slice ka kn kc, .slice na ns.length nc, .slice a l.length c] 28) = W0 at *
 by_cases h1 : (l.length : Int) = ns.length
 rotate_left
 ·have h1' : ((l.length : Int) != ns.length) = true := bne_iff_ne.2 h1
  have HE := HF.out false (Bool.eq_false_iff.2 (fun hh => by
   obtain ⟨a1, _⟩ := node_parts hh
   exact h1 a1))
  clear HF HK HLab
  go_wp2_with fail
  go_ret
  exact ⟨HE, hb0⟩
 have h1' : ((l.length : Int) != ns.length) = false := by rw [h1]; simp
 obtain ⟨bl, hbl⟩ : ∃ b, labsB ns = b := ⟨_, rfl⟩
 rw [hbl] at HLab
 have HBL := hJQ hbl
 clear hbl
 go_wp2_with fail
 refine HLab.out.mono ?_
 rintro e w2 ⟨rfl, hb2⟩
 have hbw := hb0.trans (hb2.mono hb0.size)
 have g2 := (hb2.block _ hlt).trans gC
 obtain ⟨d0, d1, d2, d3, d4, d5⟩ := cnQ g2
 have HB2 := hJQ (opBinder_any 105 (.inr rfl) 8 w2)
 have HB2 : Hid (Calls Tryz.prog 105 #[.int .i64 8] w2 fun e w' => e = .returned (.bool false)/\w' = w2) := HB2
 clear c0 c1 c2 c3 c4 c5 gC HLab hb2
 cases bl
 ·have HE := HF.out false (Bool.eq_false_iff.2 (fun hh => by
   obtain ⟨_, _, _, _, a5⟩ := node_parts hh
   have a5 : labsB ns = true := a5
   rw [HBL.out] at a5; cases a5))
  clear HF HK
  go_wp2_with fail
  go_ret
  exact ⟨HE, hbw⟩
 by_cases h3 : n = 0
 rotate_left
 ·have h3' : (n != 0) = true := bne_iff_ne.2 h3
  have HE := HF.out false (Bool.eq_false_iff.2 (fun hh => by
   obtain ⟨_, a2, _⟩ := node_parts hh
   have a2 : (n == 0) = true := a2; exact h3 (beq_iff_eq.1 a2)))
  clear HF HK
  go_wp2_with fail
  go_ret
  exact ⟨HE, hbw⟩
 subst h3
 by_cases h5 : s.size = 0
 rotate_left
 ·obtain ⟨s1, s2, s3⟩ := size_some h5
  have HE := HF.out false (Bool.eq_false_iff.2 (fun hh => by
   obtain ⟨_, _, a3, _⟩ := node_parts hh
   have a3 : (s.size == 0) = true := a3; exact h5 (beq_iff_eq.1 a3)))
  clear HF HK
  go_wp2_with fail
  go_ret
  exact ⟨HE, hbw⟩
 obtain rfl := size_zero h5
 go_wp2_with fail
 refine HB2.out.mono ?_
 rintro e w3 ⟨rfl, rfl⟩
 clear HB2
 by_cases h6 : (kn : Int) = 0
 ·have h6' : kn = 0 := by omega
  subst h6'
  have HE := HF.out true (node_yes (by rw [h1]; rfl) rfl rfl (show (pK k).l.isEmpty = true by rw [HK.out]; rfl) HBL.out)
  clear HF HK
  go_wp2_with fail
  go_ret
  exact ⟨HE, hbw⟩
 ·have h6' : ((kn : Int) == 0) = false := beq_eq_false_iff_ne.2 h6
  have HE := HF.out false (Bool.eq_false_iff.2 (fun hh => by
   obtain ⟨_, _, _, a4, _⟩ := node_parts hh
   have a4 : (pK k).l.isEmpty = true := a4; rw [HK.out] at a4; exact h6 (by have := of_decide_eq_true a4; omega)))
  clear HF HK
  go_wp2_with fail
  go_ret
  exact ⟨HE, hbw⟩
theorem node_9 (P : Nat->Prop) (n : Int) (s : ByteArray) (k : KindD) (nv : Value) (ns : List ByteArray) (lv : Value) (l : List ConD) (w : World) (h : IsCon P w (.mk 9 n s k nv ns lv l)) (hs : s.size<=1000) (hns : ∀ x ∈ ns, x.size<=1000) (hnl : ns.length<=1000000) :
 Calls Tryz.prog 62 #[conV (.mk 9 n s k nv ns lv l)] w (NodeOk 9 n s k ns l.length w) := by
 obtain ⟨op, hop⟩ : ∃ op : Int, op = 9 := ⟨_, rfl⟩
 rw [← hop] at h ⊢
 obtain ⟨ka, kc, kn, hks⟩ := iKQ h.parts.kind
 obtain ⟨na, nc, rfl, _⟩ := rSQ h.parts.names
 obtain ⟨a, c, rfl, _⟩ := rSQ h.parts.row
 rw [cVQ hks]
 have hll : l.length<=9223372036854775807 := by have h1 := h.parts.llen; have : maxLen = 9223372036854775807 := (by decide); omega
 have hnn : ns.length<=9223372036854775807 := by have h1 := h.parts.nlen; have : maxLen = 9223372036854775807 := (by decide); omega
 have hb0 : Below w.heap.size w (w.alloc (.cells #[.int .i64 op, .int .i64 n, .string s, .slice ka kn kc, .slice na ns.length nc, .slice a l.length c] 28)) := (Below.refl _ _).alloc (Nat.le_refl _) _
 have gC := nHQ w (.cells #[.int .i64 op, .int .i64 n, .string s, .slice ka kn kc, .slice na ns.length nc, .slice a l.length c] 28)
 have hsz0 : (w.alloc (.cells #[.int .i64 op, .int .i64 n, .string s, .slice ka kn kc, .slice na ns.length nc, .slice a l.length c] 28)).heap.size = w.heap.size + 1 := by simp
 obtain ⟨c0, c1, c2, c3, c4, c5⟩ := cnQ gC
 have HP := hJQ (iBQ h hb0).parts
 have HC0 := hJQ (iBQ h hb0)
 subst hop
 have hf : ∀ b, nodeC cstB labsB 9 n s (pK k) ns l.length = b->Ending.returned (.bool b) = Ending.returned (.bool (nodeC cstB labsB 9 n s (pK k) ns l.length)) := fun b hb => by rw [hb]
 have HF := hJQ hf
 have HK := hJQ (kind_empty h.parts.kind hks)
 have HP2 : Hid (Calls Tryz.prog 102 #[.int .i64 9] (w.alloc (.cells #[.int .i64 9, .int .i64 n, .string s, .slice ka kn kc, .slice na ns.length nc, .slice a l.length c] 28)) fun e w' => e = .returned (.int .i64 (1))/\w' = w.alloc (.cells #[.int .i64 9, .int .i64 n, .string s, .slice ka kn kc, .slice na ns.length nc, .slice a l.length c] 28)) := rparts_any 9 _
 have HB2 : Hid (Calls Tryz.prog 105 #[.int .i64 9] (w.alloc (.cells #[.int .i64 9, .int .i64 n, .string s, .slice ka kn kc, .slice na ns.length nc, .slice a l.length c] 28)) fun e w' => e = .returned (.bool true)/\w' = w.alloc (.cells #[.int .i64 9, .int .i64 n, .string s, .slice ka kn kc, .slice na ns.length nc, .slice a l.length c] 28)) := opBinder_any 105 (.inr rfl) 9 _
 have HV : Hid (∀ W (_ : Below w.heap.size w W), Calls Tryz.prog 106 #[.agg #[.slice ka kn kc]] W fun e w' => e = .returned (.bool (validK (pK k)))/\Below W.heap.size W w') := fun W hW => by
  have := rkvalid_any P k W (isKind_below h.parts.kind hW)
  rw [show kindV k = .agg #[.slice ka kn kc] by show Value.agg #[k.v] = _; rw [hks]] at this
  exact this
 have hlt : w.heap.size < (w.alloc (.cells #[.int .i64 9, .int .i64 n, .string s, .slice ka kn kc, .slice na ns.length nc, .slice a l.length c] 28)).heap.size := by omega
 clear h hf HP HC0
 go_enter Tryz.func62, Tryz.ntmps62
 go_wp2_with fail
 refine HP2.out.mono ?_
 rintro e w1 ⟨rfl, rfl⟩
 clear HP2
 generalize w.alloc (.cells #[.int .i64 9, .int .i64 n, .string s, .slice ka kn kc, .slice na ns.length nc, .slice a l.length c] 28) = W0 at *
 by_cases h1 : (l.length : Int) = 1
 rotate_left
 ·have h1' : ((l.length : Int) != 1) = true := bne_iff_ne.2 h1
  have HE := HF.out false (Bool.eq_false_iff.2 (fun hh => by
   obtain ⟨a1, _⟩ := node_parts hh
   exact h1 a1))
  clear HF HK
  go_wp2_with fail
  go_ret
  exact ⟨HE, hb0⟩
 have h1' : ((l.length : Int) != 1) = false := by rw [h1]; rfl
 by_cases h2 : (ns.length : Int) = 0
 rotate_left
 ·have h2' : ((ns.length : Int) != 0) = true := bne_iff_ne.2 h2
  have HE := HF.out false (Bool.eq_false_iff.2 (fun hh => by
   obtain ⟨_, _, _, _, a5⟩ := node_parts hh
   have a5 : ns.isEmpty = true := a5; exact h2 (by rw [List.isEmpty_iff] at a5; rw [a5]; rfl)))
  clear HF HK
  go_wp2_with fail
  go_ret
  exact ⟨HE, hb0⟩
 have h2' : ((ns.length : Int) != 0) = false := by rw [h2]; rfl
 have H2 : Hid (ns.isEmpty = true) := by cases ns with | nil => rfl | cons => simp at h2; omega
 by_cases h3 : n = 0
 rotate_left
 ·have h3' : (n != 0) = true := bne_iff_ne.2 h3
  have HE := HF.out false (Bool.eq_false_iff.2 (fun hh => by
   obtain ⟨_, a2, _⟩ := node_parts hh
   have a2 : (n == 0) = true := a2; exact h3 (beq_iff_eq.1 a2)))
  clear HF HK
  go_wp2_with fail
  go_ret
  exact ⟨HE, hb0⟩
 subst h3
 by_cases h5 : s.size = 0
 rotate_left
 ·obtain ⟨s1, s2, s3⟩ := size_some h5
  have HE := HF.out false (Bool.eq_false_iff.2 (fun hh => by
   obtain ⟨_, _, a3, _⟩ := node_parts hh
   have a3 : (s.size == 0) = true := a3; exact h5 (beq_iff_eq.1 a3)))
  clear HF HK
  go_wp2_with fail
  go_ret
  exact ⟨HE, hb0⟩
 obtain rfl := size_zero h5
 go_wp2_with fail
 refine HB2.out.mono ?_
 rintro e w3 ⟨rfl, rfl⟩
 clear HB2
 have HV2 := hJQ (HV.out _ hb0)
 have HE := hJQ (HF.out (validK (pK k)) (by
  cases hq : validK (pK k)
  ·exact Bool.eq_false_iff.2 (fun hh => by
    obtain ⟨_, _, _, a4, _⟩ := node_parts hh
    have a4 : validK (pK k) = true := a4
    rw [hq] at a4; cases a4)
  ·exact node_yes (by rw [h1]; rfl) rfl rfl hq H2.out))
 clear HF HV HK
 generalize validK (pK k) = q at *
 go_wp2_with fail
 refine HV2.out.mono ?_
 rintro e w4 ⟨rfl, hb4⟩
 have hbz := (hb0).trans (hb4.mono (hb0).size)
 clear HV2
 go_wp2_with fail
 go_ret
 exact ⟨HE.out, hbz⟩
theorem node_10 (P : Nat->Prop) (n : Int) (s : ByteArray) (k : KindD) (nv : Value) (ns : List ByteArray) (lv : Value) (l : List ConD) (w : World) (h : IsCon P w (.mk 10 n s k nv ns lv l)) (hs : s.size<=1000) (hns : ∀ x ∈ ns, x.size<=1000) (hnl : ns.length<=1000000) :
 Calls Tryz.prog 62 #[conV (.mk 10 n s k nv ns lv l)] w (NodeOk 10 n s k ns l.length w) := by
 obtain ⟨op, hop⟩ : ∃ op : Int, op = 10 := ⟨_, rfl⟩
 rw [← hop] at h ⊢
 obtain ⟨ka, kc, kn, hks⟩ := iKQ h.parts.kind
 obtain ⟨na, nc, rfl, _⟩ := rSQ h.parts.names
 obtain ⟨a, c, rfl, _⟩ := rSQ h.parts.row
 rw [cVQ hks]
 have hll : l.length<=9223372036854775807 := by have h1 := h.parts.llen; have : maxLen = 9223372036854775807 := (by decide); omega
 have hnn : ns.length<=9223372036854775807 := by have h1 := h.parts.nlen; have : maxLen = 9223372036854775807 := (by decide); omega
 have hb0 : Below w.heap.size w (w.alloc (.cells #[.int .i64 op, .int .i64 n, .string s, .slice ka kn kc, .slice na ns.length nc, .slice a l.length c] 28)) := (Below.refl _ _).alloc (Nat.le_refl _) _
 have gC := nHQ w (.cells #[.int .i64 op, .int .i64 n, .string s, .slice ka kn kc, .slice na ns.length nc, .slice a l.length c] 28)
 have hsz0 : (w.alloc (.cells #[.int .i64 op, .int .i64 n, .string s, .slice ka kn kc, .slice na ns.length nc, .slice a l.length c] 28)).heap.size = w.heap.size + 1 := by simp
 obtain ⟨c0, c1, c2, c3, c4, c5⟩ := cnQ gC
 have HP := hJQ (iBQ h hb0).parts
 have HC0 := hJQ (iBQ h hb0)
 subst hop
 have hf : ∀ b, nodeC cstB labsB 10 n s (pK k) ns l.length = b->Ending.returned (.bool b) = Ending.returned (.bool (nodeC cstB labsB 10 n s (pK k) ns l.length)) := fun b hb => by rw [hb]
 have HF := hJQ hf
 have HK := hJQ (kind_empty h.parts.kind hks)
 have HP2 : Hid (Calls Tryz.prog 102 #[.int .i64 10] (w.alloc (.cells #[.int .i64 10, .int .i64 n, .string s, .slice ka kn kc, .slice na ns.length nc, .slice a l.length c] 28)) fun e w' => e = .returned (.int .i64 (1))/\w' = w.alloc (.cells #[.int .i64 10, .int .i64 n, .string s, .slice ka kn kc, .slice na ns.length nc, .slice a l.length c] 28)) := rparts_any 10 _
 have HB2 : Hid (Calls Tryz.prog 105 #[.int .i64 10] (w.alloc (.cells #[.int .i64 10, .int .i64 n, .string s, .slice ka kn kc, .slice na ns.length nc, .slice a l.length c] 28)) fun e w' => e = .returned (.bool true)/\w' = w.alloc (.cells #[.int .i64 10, .int .i64 n, .string s, .slice ka kn kc, .slice na ns.length nc, .slice a l.length c] 28)) := opBinder_any 105 (.inr rfl) 10 _
 have HV : Hid (∀ W (_ : Below w.heap.size w W), Calls Tryz.prog 106 #[.agg #[.slice ka kn kc]] W fun e w' => e = .returned (.bool (validK (pK k)))/\Below W.heap.size W w') := fun W hW => by
  have := rkvalid_any P k W (isKind_below h.parts.kind hW)
  rw [show kindV k = .agg #[.slice ka kn kc] by show Value.agg #[k.v] = _; rw [hks]] at this
  exact this
 have hlt : w.heap.size < (w.alloc (.cells #[.int .i64 10, .int .i64 n, .string s, .slice ka kn kc, .slice na ns.length nc, .slice a l.length c] 28)).heap.size := by omega
 clear h hf HP HC0
 go_enter Tryz.func62, Tryz.ntmps62
 go_wp2_with fail
 refine HP2.out.mono ?_
 rintro e w1 ⟨rfl, rfl⟩
 clear HP2
 generalize w.alloc (.cells #[.int .i64 10, .int .i64 n, .string s, .slice ka kn kc, .slice na ns.length nc, .slice a l.length c] 28) = W0 at *
 by_cases h1 : (l.length : Int) = 1
 rotate_left
 ·have h1' : ((l.length : Int) != 1) = true := bne_iff_ne.2 h1
  have HE := HF.out false (Bool.eq_false_iff.2 (fun hh => by
   obtain ⟨a1, _⟩ := node_parts hh
   exact h1 a1))
  clear HF HK
  go_wp2_with fail
  go_ret
  exact ⟨HE, hb0⟩
 have h1' : ((l.length : Int) != 1) = false := by rw [h1]; rfl
 by_cases h2 : (ns.length : Int) = 0
 rotate_left
 ·have h2' : ((ns.length : Int) != 0) = true := bne_iff_ne.2 h2
  have HE := HF.out false (Bool.eq_false_iff.2 (fun hh => by
   obtain ⟨_, _, _, _, a5⟩ := node_parts hh
   have a5 : ns.isEmpty = true := a5; exact h2 (by rw [List.isEmpty_iff] at a5; rw [a5]; rfl)))
  clear HF HK
  go_wp2_with fail
  go_ret
  exact ⟨HE, hb0⟩
 have h2' : ((ns.length : Int) != 0) = false := by rw [h2]; rfl
 have H2 : Hid (ns.isEmpty = true) := by cases ns with | nil => rfl | cons => simp at h2; omega
 by_cases h3 : n = 0
 rotate_left
 ·have h3' : (n != 0) = true := bne_iff_ne.2 h3
  have HE := HF.out false (Bool.eq_false_iff.2 (fun hh => by
   obtain ⟨_, a2, _⟩ := node_parts hh
   have a2 : (n == 0) = true := a2; exact h3 (beq_iff_eq.1 a2)))
  clear HF HK
  go_wp2_with fail
  go_ret
  exact ⟨HE, hb0⟩
 subst h3
 by_cases h5 : s.size = 0
 rotate_left
 ·obtain ⟨s1, s2, s3⟩ := size_some h5
  have HE := HF.out false (Bool.eq_false_iff.2 (fun hh => by
   obtain ⟨_, _, a3, _⟩ := node_parts hh
   have a3 : (s.size == 0) = true := a3; exact h5 (beq_iff_eq.1 a3)))
  clear HF HK
  go_wp2_with fail
  go_ret
  exact ⟨HE, hb0⟩
 obtain rfl := size_zero h5
 go_wp2_with fail
 refine HB2.out.mono ?_
 rintro e w3 ⟨rfl, rfl⟩
 clear HB2
 have HV2 := hJQ (HV.out _ hb0)
 have HE := hJQ (HF.out (validK (pK k)) (by
  cases hq : validK (pK k)
  ·exact Bool.eq_false_iff.2 (fun hh => by
    obtain ⟨_, _, _, a4, _⟩ := node_parts hh
    have a4 : validK (pK k) = true := a4
    rw [hq] at a4; cases a4)
  ·exact node_yes (by rw [h1]; rfl) rfl rfl hq H2.out))
 clear HF HV HK
 generalize validK (pK k) = q at *
 go_wp2_with fail
 refine HV2.out.mono ?_
 rintro e w4 ⟨rfl, hb4⟩
 have hbz := (hb0).trans (hb4.mono (hb0).size)
 clear HV2
 go_wp2_with fail
 go_ret
 exact ⟨HE.out, hbz⟩
theorem node_11 (P : Nat->Prop) (n : Int) (s : ByteArray) (k : KindD) (nv : Value) (ns : List ByteArray) (lv : Value) (l : List ConD) (w : World) (h : IsCon P w (.mk 11 n s k nv ns lv l)) (hs : s.size<=1000) (hns : ∀ x ∈ ns, x.size<=1000) (hnl : ns.length<=1000000) :
 Calls Tryz.prog 62 #[conV (.mk 11 n s k nv ns lv l)] w (NodeOk 11 n s k ns l.length w) := by
 obtain ⟨op, hop⟩ : ∃ op : Int, op = 11 := ⟨_, rfl⟩
 rw [← hop] at h ⊢
 obtain ⟨ka, kc, kn, hks⟩ := iKQ h.parts.kind
 obtain ⟨na, nc, rfl, _⟩ := rSQ h.parts.names
 obtain ⟨a, c, rfl, _⟩ := rSQ h.parts.row
 rw [cVQ hks]
 have hll : l.length<=9223372036854775807 := by have h1 := h.parts.llen; have : maxLen = 9223372036854775807 := (by decide); omega
 have hnn : ns.length<=9223372036854775807 := by have h1 := h.parts.nlen; have : maxLen = 9223372036854775807 := (by decide); omega
 have hb0 : Below w.heap.size w (w.alloc (.cells #[.int .i64 op, .int .i64 n, .string s, .slice ka kn kc, .slice na ns.length nc, .slice a l.length c] 28)) := (Below.refl _ _).alloc (Nat.le_refl _) _
 have gC := nHQ w (.cells #[.int .i64 op, .int .i64 n, .string s, .slice ka kn kc, .slice na ns.length nc, .slice a l.length c] 28)
 have hsz0 : (w.alloc (.cells #[.int .i64 op, .int .i64 n, .string s, .slice ka kn kc, .slice na ns.length nc, .slice a l.length c] 28)).heap.size = w.heap.size + 1 := by simp
 obtain ⟨c0, c1, c2, c3, c4, c5⟩ := cnQ gC
 have HP := hJQ (iBQ h hb0).parts
 have HC0 := hJQ (iBQ h hb0)
 subst hop
 have hf : ∀ b, nodeC cstB labsB 11 n s (pK k) ns l.length = b->Ending.returned (.bool b) = Ending.returned (.bool (nodeC cstB labsB 11 n s (pK k) ns l.length)) := fun b hb => by rw [hb]
 have HF := hJQ hf
 have HK := hJQ (kind_empty h.parts.kind hks)
 have HP2 : Hid (Calls Tryz.prog 102 #[.int .i64 11] (w.alloc (.cells #[.int .i64 11, .int .i64 n, .string s, .slice ka kn kc, .slice na ns.length nc, .slice a l.length c] 28)) fun e w' => e = .returned (.int .i64 (1))/\w' = w.alloc (.cells #[.int .i64 11, .int .i64 n, .string s, .slice ka kn kc, .slice na ns.length nc, .slice a l.length c] 28)) := rparts_any 11 _
 have HB2 : Hid (Calls Tryz.prog 105 #[.int .i64 11] (w.alloc (.cells #[.int .i64 11, .int .i64 n, .string s, .slice ka kn kc, .slice na ns.length nc, .slice a l.length c] 28)) fun e w' => e = .returned (.bool true)/\w' = w.alloc (.cells #[.int .i64 11, .int .i64 n, .string s, .slice ka kn kc, .slice na ns.length nc, .slice a l.length c] 28)) := opBinder_any 105 (.inr rfl) 11 _
 have HV : Hid (∀ W (_ : Below w.heap.size w W), Calls Tryz.prog 106 #[.agg #[.slice ka kn kc]] W fun e w' => e = .returned (.bool (validK (pK k)))/\Below W.heap.size W w') := fun W hW => by
  have := rkvalid_any P k W (isKind_below h.parts.kind hW)
  rw [show kindV k = .agg #[.slice ka kn kc] by show Value.agg #[k.v] = _; rw [hks]] at this
  exact this
 have hlt : w.heap.size < (w.alloc (.cells #[.int .i64 11, .int .i64 n, .string s, .slice ka kn kc, .slice na ns.length nc, .slice a l.length c] 28)).heap.size := by omega
 clear h hf HP HC0
 go_enter Tryz.func62, Tryz.ntmps62
 go_wp2_with fail
 refine HP2.out.mono ?_
 rintro e w1 ⟨rfl, rfl⟩
 clear HP2
 generalize w.alloc (.cells #[.int .i64 11, .int .i64 n, .string s, .slice ka kn kc, .slice na ns.length nc, .slice a l.length c] 28) = W0 at *
 by_cases h1 : (l.length : Int) = 1
 rotate_left
 ·have h1' : ((l.length : Int) != 1) = true := bne_iff_ne.2 h1
  have HE := HF.out false (Bool.eq_false_iff.2 (fun hh => by
   obtain ⟨a1, _⟩ := node_parts hh
   exact h1 a1))
  clear HF HK
  go_wp2_with fail
  go_ret
  exact ⟨HE, hb0⟩
 have h1' : ((l.length : Int) != 1) = false := by rw [h1]; rfl
 by_cases h2 : (ns.length : Int) = 0
 rotate_left
 ·have h2' : ((ns.length : Int) != 0) = true := bne_iff_ne.2 h2
  have HE := HF.out false (Bool.eq_false_iff.2 (fun hh => by
   obtain ⟨_, _, _, _, a5⟩ := node_parts hh
   have a5 : ns.isEmpty = true := a5; exact h2 (by rw [List.isEmpty_iff] at a5; rw [a5]; rfl)))
  clear HF HK
  go_wp2_with fail
  go_ret
  exact ⟨HE, hb0⟩
 have h2' : ((ns.length : Int) != 0) = false := by rw [h2]; rfl
 have H2 : Hid (ns.isEmpty = true) := by cases ns with | nil => rfl | cons => simp at h2; omega
 by_cases h3 : n = 0
 rotate_left
 ·have h3' : (n != 0) = true := bne_iff_ne.2 h3
  have HE := HF.out false (Bool.eq_false_iff.2 (fun hh => by
   obtain ⟨_, a2, _⟩ := node_parts hh
   have a2 : (n == 0) = true := a2; exact h3 (beq_iff_eq.1 a2)))
  clear HF HK
  go_wp2_with fail
  go_ret
  exact ⟨HE, hb0⟩
 subst h3
 by_cases h5 : s.size = 0
 rotate_left
 ·obtain ⟨s1, s2, s3⟩ := size_some h5
  have HE := HF.out false (Bool.eq_false_iff.2 (fun hh => by
   obtain ⟨_, _, a3, _⟩ := node_parts hh
   have a3 : (s.size == 0) = true := a3; exact h5 (beq_iff_eq.1 a3)))
  clear HF HK
  go_wp2_with fail
  go_ret
  exact ⟨HE, hb0⟩
 obtain rfl := size_zero h5
 go_wp2_with fail
 refine HB2.out.mono ?_
 rintro e w3 ⟨rfl, rfl⟩
 clear HB2
 have HV2 := hJQ (HV.out _ hb0)
 have HE := hJQ (HF.out (validK (pK k)) (by
  cases hq : validK (pK k)
  ·exact Bool.eq_false_iff.2 (fun hh => by
    obtain ⟨_, _, _, a4, _⟩ := node_parts hh
    have a4 : validK (pK k) = true := a4
    rw [hq] at a4; cases a4)
  ·exact node_yes (by rw [h1]; rfl) rfl rfl hq H2.out))
 clear HF HV HK
 generalize validK (pK k) = q at *
 go_wp2_with fail
 refine HV2.out.mono ?_
 rintro e w4 ⟨rfl, hb4⟩
 have hbz := (hb0).trans (hb4.mono (hb0).size)
 clear HV2
 go_wp2_with fail
 go_ret
 exact ⟨HE.out, hbz⟩
theorem node_12 (P : Nat->Prop) (n : Int) (s : ByteArray) (k : KindD) (nv : Value) (ns : List ByteArray) (lv : Value) (l : List ConD) (w : World) (h : IsCon P w (.mk 12 n s k nv ns lv l)) (hs : s.size<=1000) (hns : ∀ x ∈ ns, x.size<=1000) (hnl : ns.length<=1000000) :
 Calls Tryz.prog 62 #[conV (.mk 12 n s k nv ns lv l)] w (NodeOk 12 n s k ns l.length w) := by
 obtain ⟨op, hop⟩ : ∃ op : Int, op = 12 := ⟨_, rfl⟩
 rw [← hop] at h ⊢
 obtain ⟨ka, kc, kn, hks⟩ := iKQ h.parts.kind
 obtain ⟨na, nc, rfl, _⟩ := rSQ h.parts.names
 obtain ⟨a, c, rfl, _⟩ := rSQ h.parts.row
 rw [cVQ hks]
 have hll : l.length<=9223372036854775807 := by have h1 := h.parts.llen; have : maxLen = 9223372036854775807 := (by decide); omega
 have hnn : ns.length<=9223372036854775807 := by have h1 := h.parts.nlen; have : maxLen = 9223372036854775807 := (by decide); omega
 have hb0 : Below w.heap.size w (w.alloc (.cells #[.int .i64 op, .int .i64 n, .string s, .slice ka kn kc, .slice na ns.length nc, .slice a l.length c] 28)) := (Below.refl _ _).alloc (Nat.le_refl _) _
 have gC := nHQ w (.cells #[.int .i64 op, .int .i64 n, .string s, .slice ka kn kc, .slice na ns.length nc, .slice a l.length c] 28)
 have hsz0 : (w.alloc (.cells #[.int .i64 op, .int .i64 n, .string s, .slice ka kn kc, .slice na ns.length nc, .slice a l.length c] 28)).heap.size = w.heap.size + 1 := by simp
 obtain ⟨c0, c1, c2, c3, c4, c5⟩ := cnQ gC
 have HP := hJQ (iBQ h hb0).parts
 have HC0 := hJQ (iBQ h hb0)
 subst hop
 have hf : ∀ b, nodeC cstB labsB 12 n s (pK k) ns l.length = b->Ending.returned (.bool b) = Ending.returned (.bool (nodeC cstB labsB 12 n s (pK k) ns l.length)) := fun b hb => by rw [hb]
 have HF := hJQ hf
 have HK := hJQ (kind_empty h.parts.kind hks)
 have HP2 : Hid (Calls Tryz.prog 102 #[.int .i64 12] (w.alloc (.cells #[.int .i64 12, .int .i64 n, .string s, .slice ka kn kc, .slice na ns.length nc, .slice a l.length c] 28)) fun e w' => e = .returned (.int .i64 (2))/\w' = w.alloc (.cells #[.int .i64 12, .int .i64 n, .string s, .slice ka kn kc, .slice na ns.length nc, .slice a l.length c] 28)) := rparts_any 12 _
 have HB2 : Hid (Calls Tryz.prog 105 #[.int .i64 12] (w.alloc (.cells #[.int .i64 12, .int .i64 n, .string s, .slice ka kn kc, .slice na ns.length nc, .slice a l.length c] 28)) fun e w' => e = .returned (.bool false)/\w' = w.alloc (.cells #[.int .i64 12, .int .i64 n, .string s, .slice ka kn kc, .slice na ns.length nc, .slice a l.length c] 28)) := opBinder_any 105 (.inr rfl) 12 _
 have hlt : w.heap.size < (w.alloc (.cells #[.int .i64 12, .int .i64 n, .string s, .slice ka kn kc, .slice na ns.length nc, .slice a l.length c] 28)).heap.size := by omega
 clear h hf HP HC0
 go_enter Tryz.func62, Tryz.ntmps62
 go_wp2_with fail
 refine HP2.out.mono ?_
 rintro e w1 ⟨rfl, rfl⟩
 clear HP2
 generalize w.alloc (.cells #[.int .i64 12, .int .i64 n, .string s, .slice ka kn kc, .slice na ns.length nc, .slice a l.length c] 28) = W0 at *
 by_cases h1 : (l.length : Int) = 2
 rotate_left
 ·have h1' : ((l.length : Int) != 2) = true := bne_iff_ne.2 h1
  have HE := HF.out false (Bool.eq_false_iff.2 (fun hh => by
   obtain ⟨a1, _⟩ := node_parts hh
   exact h1 a1))
  clear HF HK
  go_wp2_with fail
  go_ret
  exact ⟨HE, hb0⟩
 have h1' : ((l.length : Int) != 2) = false := by rw [h1]; rfl
 by_cases h2 : (ns.length : Int) = 0
 rotate_left
 ·have h2' : ((ns.length : Int) != 0) = true := bne_iff_ne.2 h2
  have HE := HF.out false (Bool.eq_false_iff.2 (fun hh => by
   obtain ⟨_, _, _, _, a5⟩ := node_parts hh
   have a5 : ns.isEmpty = true := a5; exact h2 (by rw [List.isEmpty_iff] at a5; rw [a5]; rfl)))
  clear HF HK
  go_wp2_with fail
  go_ret
  exact ⟨HE, hb0⟩
 have h2' : ((ns.length : Int) != 0) = false := by rw [h2]; rfl
 have H2 : Hid (ns.isEmpty = true) := by cases ns with | nil => rfl | cons => simp at h2; omega
 by_cases h3 : n = 0
 rotate_left
 ·have h3' : (n != 0) = true := bne_iff_ne.2 h3
  have HE := HF.out false (Bool.eq_false_iff.2 (fun hh => by
   obtain ⟨_, a2, _⟩ := node_parts hh
   have a2 : (n == 0) = true := a2; exact h3 (beq_iff_eq.1 a2)))
  clear HF HK
  go_wp2_with fail
  go_ret
  exact ⟨HE, hb0⟩
 subst h3
 by_cases h5 : s.size = 0
 rotate_left
 ·obtain ⟨s1, s2, s3⟩ := size_some h5
  have HE := HF.out false (Bool.eq_false_iff.2 (fun hh => by
   obtain ⟨_, _, a3, _⟩ := node_parts hh
   have a3 : (s.size == 0) = true := a3; exact h5 (beq_iff_eq.1 a3)))
  clear HF HK
  go_wp2_with fail
  go_ret
  exact ⟨HE, hb0⟩
 obtain rfl := size_zero h5
 go_wp2_with fail
 refine HB2.out.mono ?_
 rintro e w3 ⟨rfl, rfl⟩
 clear HB2
 by_cases h6 : (kn : Int) = 0
 ·have h6' : kn = 0 := by omega
  subst h6'
  have HE := HF.out true (node_yes (by rw [h1]; rfl) rfl rfl (show (pK k).l.isEmpty = true by rw [HK.out]; rfl) H2.out)
  clear HF HK
  go_wp2_with fail
  go_ret
  exact ⟨HE, hb0⟩
 ·have h6' : ((kn : Int) == 0) = false := beq_eq_false_iff_ne.2 h6
  have HE := HF.out false (Bool.eq_false_iff.2 (fun hh => by
   obtain ⟨_, _, _, a4, _⟩ := node_parts hh
   have a4 : (pK k).l.isEmpty = true := a4; rw [HK.out] at a4; exact h6 (by have := of_decide_eq_true a4; omega)))
  clear HF HK
  go_wp2_with fail
  go_ret
  exact ⟨HE, hb0⟩
theorem node_13 (P : Nat->Prop) (n : Int) (s : ByteArray) (k : KindD) (nv : Value) (ns : List ByteArray) (lv : Value) (l : List ConD) (w : World) (h : IsCon P w (.mk 13 n s k nv ns lv l)) (hs : s.size<=1000) (hns : ∀ x ∈ ns, x.size<=1000) (hnl : ns.length<=1000000) :
 Calls Tryz.prog 62 #[conV (.mk 13 n s k nv ns lv l)] w (NodeOk 13 n s k ns l.length w) := by
 obtain ⟨op, hop⟩ : ∃ op : Int, op = 13 := ⟨_, rfl⟩
 rw [← hop] at h ⊢
 obtain ⟨ka, kc, kn, hks⟩ := iKQ h.parts.kind
 obtain ⟨na, nc, rfl, _⟩ := rSQ h.parts.names
 obtain ⟨a, c, rfl, _⟩ := rSQ h.parts.row
 rw [cVQ hks]
 have hll : l.length<=9223372036854775807 := by have h1 := h.parts.llen; have : maxLen = 9223372036854775807 := (by decide); omega
 have hnn : ns.length<=9223372036854775807 := by have h1 := h.parts.nlen; have : maxLen = 9223372036854775807 := (by decide); omega
 have hb0 : Below w.heap.size w (w.alloc (.cells #[.int .i64 op, .int .i64 n, .string s, .slice ka kn kc, .slice na ns.length nc, .slice a l.length c] 28)) := (Below.refl _ _).alloc (Nat.le_refl _) _
 have gC := nHQ w (.cells #[.int .i64 op, .int .i64 n, .string s, .slice ka kn kc, .slice na ns.length nc, .slice a l.length c] 28)
 have hsz0 : (w.alloc (.cells #[.int .i64 op, .int .i64 n, .string s, .slice ka kn kc, .slice na ns.length nc, .slice a l.length c] 28)).heap.size = w.heap.size + 1 := by simp
 obtain ⟨c0, c1, c2, c3, c4, c5⟩ := cnQ gC
 have HP := hJQ (iBQ h hb0).parts
 have HC0 := hJQ (iBQ h hb0)
 subst hop
 have hf : ∀ b, nodeC cstB labsB 13 n s (pK k) ns l.length = b->Ending.returned (.bool b) = Ending.returned (.bool (nodeC cstB labsB 13 n s (pK k) ns l.length)) := fun b hb => by rw [hb]
 have HF := hJQ hf
 have HK := hJQ (kind_empty h.parts.kind hks)
 have HP2 : Hid (Calls Tryz.prog 102 #[.int .i64 13] (w.alloc (.cells #[.int .i64 13, .int .i64 n, .string s, .slice ka kn kc, .slice na ns.length nc, .slice a l.length c] 28)) fun e w' => e = .returned (.int .i64 (1))/\w' = w.alloc (.cells #[.int .i64 13, .int .i64 n, .string s, .slice ka kn kc, .slice na ns.length nc, .slice a l.length c] 28)) := rparts_any 13 _
 have HB2 : Hid (Calls Tryz.prog 105 #[.int .i64 13] (w.alloc (.cells #[.int .i64 13, .int .i64 n, .string s, .slice ka kn kc, .slice na ns.length nc, .slice a l.length c] 28)) fun e w' => e = .returned (.bool true)/\w' = w.alloc (.cells #[.int .i64 13, .int .i64 n, .string s, .slice ka kn kc, .slice na ns.length nc, .slice a l.length c] 28)) := opBinder_any 105 (.inr rfl) 13 _
 have HV : Hid (∀ W (_ : Below w.heap.size w W), Calls Tryz.prog 106 #[.agg #[.slice ka kn kc]] W fun e w' => e = .returned (.bool (validK (pK k)))/\Below W.heap.size W w') := fun W hW => by
  have := rkvalid_any P k W (isKind_below h.parts.kind hW)
  rw [show kindV k = .agg #[.slice ka kn kc] by show Value.agg #[k.v] = _; rw [hks]] at this
  exact this
 have hlt : w.heap.size < (w.alloc (.cells #[.int .i64 13, .int .i64 n, .string s, .slice ka kn kc, .slice na ns.length nc, .slice a l.length c] 28)).heap.size := by omega
 clear h hf HP HC0
 go_enter Tryz.func62, Tryz.ntmps62
 go_wp2_with fail
 refine HP2.out.mono ?_
 rintro e w1 ⟨rfl, rfl⟩
 clear HP2
 generalize w.alloc (.cells #[.int .i64 13, .int .i64 n, .string s, .slice ka kn kc, .slice na ns.length nc, .slice a l.length c] 28) = W0 at *
 by_cases h1 : (l.length : Int) = 1
 rotate_left
 ·have h1' : ((l.length : Int) != 1) = true := bne_iff_ne.2 h1
  have HE := HF.out false (Bool.eq_false_iff.2 (fun hh => by
   obtain ⟨a1, _⟩ := node_parts hh
   exact h1 a1))
  clear HF HK
  go_wp2_with fail
  go_ret
  exact ⟨HE, hb0⟩
 have h1' : ((l.length : Int) != 1) = false := by rw [h1]; rfl
 by_cases h2 : (ns.length : Int) = 0
 rotate_left
 ·have h2' : ((ns.length : Int) != 0) = true := bne_iff_ne.2 h2
  have HE := HF.out false (Bool.eq_false_iff.2 (fun hh => by
   obtain ⟨_, _, _, _, a5⟩ := node_parts hh
   have a5 : ns.isEmpty = true := a5; exact h2 (by rw [List.isEmpty_iff] at a5; rw [a5]; rfl)))
  clear HF HK
  go_wp2_with fail
  go_ret
  exact ⟨HE, hb0⟩
 have h2' : ((ns.length : Int) != 0) = false := by rw [h2]; rfl
 have H2 : Hid (ns.isEmpty = true) := by cases ns with | nil => rfl | cons => simp at h2; omega
 by_cases h3 : n = 0
 rotate_left
 ·have h3' : (n != 0) = true := bne_iff_ne.2 h3
  have HE := HF.out false (Bool.eq_false_iff.2 (fun hh => by
   obtain ⟨_, a2, _⟩ := node_parts hh
   have a2 : (n == 0) = true := a2; exact h3 (beq_iff_eq.1 a2)))
  clear HF HK
  go_wp2_with fail
  go_ret
  exact ⟨HE, hb0⟩
 subst h3
 by_cases h5 : s.size = 0
 rotate_left
 ·obtain ⟨s1, s2, s3⟩ := size_some h5
  have HE := HF.out false (Bool.eq_false_iff.2 (fun hh => by
   obtain ⟨_, _, a3, _⟩ := node_parts hh
   have a3 : (s.size == 0) = true := a3; exact h5 (beq_iff_eq.1 a3)))
  clear HF HK
  go_wp2_with fail
  go_ret
  exact ⟨HE, hb0⟩
 obtain rfl := size_zero h5
 go_wp2_with fail
 refine HB2.out.mono ?_
 rintro e w3 ⟨rfl, rfl⟩
 clear HB2
 have HV2 := hJQ (HV.out _ hb0)
 have HE := hJQ (HF.out (validK (pK k)) (by
  cases hq : validK (pK k)
  ·exact Bool.eq_false_iff.2 (fun hh => by
    obtain ⟨_, _, _, a4, _⟩ := node_parts hh
    have a4 : validK (pK k) = true := a4
    rw [hq] at a4; cases a4)
  ·exact node_yes (by rw [h1]; rfl) rfl rfl hq H2.out))
 clear HF HV HK
 generalize validK (pK k) = q at *
 go_wp2_with fail
 refine HV2.out.mono ?_
 rintro e w4 ⟨rfl, hb4⟩
 have hbz := (hb0).trans (hb4.mono (hb0).size)
 clear HV2
 go_wp2_with fail
 go_ret
 exact ⟨HE.out, hbz⟩
end Go.Proofs.YtkiffgdinmpljaaGreatDoor
