/- tycon.formed and tycon.Valid. Expanded by mac.py. slices.Clone at names; what rebuild makes, plain. Expanded by mac.py. -/
import Derived.Test.YtkiffgdinmpljaaGreatDoorF14
import Derived.Test.YtkiffgdinmpljaaGreatDoorF15
import Derived.Test.YtkiffgdinmpljaaGreatDoorF9
set_option linter.unusedVariables false
set_option linter.unusedSimpArgs false
namespace Go.Proofs.YtkiffgdinmpljaaGreatDoor
open Go Go.RowKit
set_option maxHeartbeats 8000000
set_option maxRecDepth 100000
theorem formed_any (P : Nat->Prop) : ∀ c : ConD, FormedAll P c := by
 refine ConD.ind (fun op n s k nv ns lv l ih => ?_)
 by_cases hop : 1<=op/\op<=13
 ·obtain ⟨q1, q2⟩ := hop
  have hc : op = 1 ∨ op = 2 ∨ op = 3 ∨ op = 4 ∨ op = 5 ∨ op = 6 ∨ op = 7 ∨ op = 8 ∨ op = 9 ∨ op = 10 ∨ op = 11 ∨ op = 12 ∨ op = 13 := by omega
  rcases hc with rfl | rfl | rfl | rfl | rfl | rfl | rfl | rfl | rfl | rfl | rfl | rfl | rfl
  ·exact formed_1 P n s k nv ns lv l ih trivial
  ·exact formed_2 P n s k nv ns lv l ih trivial
  ·exact formed_3 P n s k nv ns lv l ih trivial
  ·exact formed_4 P n s k nv ns lv l ih trivial
  ·exact formed_5 P n s k nv ns lv l ih trivial
  ·exact formed_6 P n s k nv ns lv l ih trivial
  ·exact formed_7 P n s k nv ns lv l ih trivial
  ·exact formed_8 P n s k nv ns lv l ih trivial
  ·exact formed_9 P n s k nv ns lv l ih trivial
  ·exact formed_10 P n s k nv ns lv l ih trivial
  ·exact formed_11 P n s k nv ns lv l ih trivial
  ·exact formed_12 P n s k nv ns lv l ih trivial
  ·exact formed_13 P n s k nv ns lv l ih trivial
 ·intro w hE h hbd
  have h0 : frmC (.mk op n s (pK k) ns (l.map pC)) = false := by
   unfold frmC
   rw [formC_mk]
   refine and_no (Bool.eq_false_iff.2 (fun hh => ?_))
   have a1 := (node_parts hh).1
   unfold partsC at a1
   rw [if_pos (show op < 1 ∨ 13 < op by omega)] at a1
   omega
  rw [pMQ, h0]
  have h1 : partsC op ns.length = -1 := by unfold partsC; rw [if_pos (by omega)]
  clear hbd h0 ih
  obtain ⟨ka, kc, kn, hks⟩ := iKQ h.parts.kind
  obtain ⟨na, nc, rfl, _⟩ := rSQ h.parts.names
  obtain ⟨a, c, rfl, _⟩ := rSQ h.parts.row
  rw [cVQ hks]
  have hll : l.length<=9223372036854775807 := by have h1 := h.parts.llen; have : maxLen = 9223372036854775807 := (by decide); omega
  have hnn : ns.length<=9223372036854775807 := by have h1 := h.parts.nlen; have : maxLen = 9223372036854775807 := (by decide); omega
  have hb0 : Below w.heap.size w (w.alloc (.cells #[.int .i64 op, .int .i64 n, .string s, .slice ka kn kc, .slice na ns.length nc, .slice a l.length c] 28)) := (Below.refl _ _).alloc (Nat.le_refl _) _
  have gC := nHQ w (.cells #[.int .i64 op, .int .i64 n, .string s, .slice ka kn kc, .slice na ns.length nc, .slice a l.length c] 28)
  have hsz0 : (w.alloc (.cells #[.int .i64 op, .int .i64 n, .string s, .slice ka kn kc, .slice na ns.length nc, .slice a l.length c] 28)).heap.size = w.heap.size + 1 := by simp
  obtain ⟨c0, c1, c2, c3, c4, c5⟩ := cnQ gC
  have HP := hJQ (iBQ h hb0).parts
  have HC0 := hJQ (iBQ h hb0)
  have HPt : Hid (∀ W, Below w.heap.size w W->Calls Tryz.prog 86 #[(.agg #[.int .i64 op, .int .i64 n, .string s, .slice ka kn kc, .slice na ns.length nc, .slice a l.length c])] W fun e w' => e = .returned (.int .i64 (-1))/\Below W.heap.size W w') := fun W hW => by
   have := parts_any P _ W (iBQ h hW)
   rw [cVQ hks] at this
   have h2 : partsC (ConD.mk op n s k (.slice na ns.length nc) ns (.slice a l.length c) l).op (ConD.mk op n s k (.slice na ns.length nc) ns (.slice a l.length c) l).ns.length = -1 := h1
   rw [h2] at this
   exact this
  have hlt : w.heap.size < (w.alloc (.cells #[.int .i64 op, .int .i64 n, .string s, .slice ka kn kc, .slice na ns.length nc, .slice a l.length c] 28)).heap.size := by omega
  clear h HP HC0 hks h1 hop hE
  go_enter Tryz.func53, Tryz.ntmps53
  go_upto_region 1 with fail
  generalize w.alloc (.cells #[.int .i64 op, .int .i64 n, .string s, .slice ka kn kc, .slice na ns.length nc, .slice a l.length c] 28) = W0 at *
  have hbd : Below w.heap.size w W0.drew := hb0.trans ⟨rfl, rfl, rfl, Nat.le_refl _, fun _ _ => rfl⟩
  go_region_held3 (fun w' => w'.cell? ⟨w.heap.size, 0, none⟩ = some (.int .i64 op)/\w'.cell? ⟨w.heap.size, 1, none⟩ = some (.int .i64 n)/\w'.cell? ⟨w.heap.size, 2, none⟩ = some (.string s)/\w'.cell? ⟨w.heap.size, 3, none⟩ = some (.slice ka kn kc)/\w'.cell? ⟨w.heap.size, 4, none⟩ = some (.slice na ns.length nc)/\w'.cell? ⟨w.heap.size, 5, none⟩ = some (.slice a l.length c)) (first | exact ⟨d0, d1, d2, d3, d4, d5⟩ | exact ⟨c0, c1, c2, c3, c4, c5⟩) ((go_at_call 86; refine (HPt.out _ hbd).mono ?_; rintro e w2 ⟨rfl, hb2⟩; have g2 := (hb2.block _ hlt).trans gC; obtain ⟨d0, d1, d2, d3, d4, d5⟩ := cnQ g2))
  have hbw := hbd.trans (hb2.mono hbd.size)
  have h1' : ((l.length : Int) != -1) = true := bne_iff_ne.2 (by omega)
  clear HPt c0 c1 c2 c3 c4 c5 gC hb2 hbd hb0 hlt
  go_wp2_with fail
  go_ret
  exact ⟨rfl, hbw⟩
theorem valid_any (P : Nat->Prop) (c : ConD) (w : World) (hE : EnvN w) (h : IsCon P w c) (hb : bndC (pC c)) (hsz : sizeC (pC c)<=1000000000) :
 Calls Tryz.prog 25 #[conV c] w fun e w' => e = .returned (.bool (valC (pC c)))/\Below w.heap.size w w' := by
 obtain ⟨op, n, s, k, nv, ns, lv, l⟩ := c
 obtain ⟨ka, kc, kn, hks⟩ := iKQ h.parts.kind
 obtain ⟨na, nc, rfl, _⟩ := rSQ h.parts.names
 obtain ⟨a, c, rfl, _⟩ := rSQ h.parts.row
 rw [cVQ hks]
 have hll : l.length<=9223372036854775807 := by have h1 := h.parts.llen; have : maxLen = 9223372036854775807 := (by decide); omega
 have hnn : ns.length<=9223372036854775807 := by have h1 := h.parts.nlen; have : maxLen = 9223372036854775807 := (by decide); omega
 have hb0 : Below w.heap.size w (w.alloc (.cells #[.int .i64 op, .int .i64 n, .string s, .slice ka kn kc, .slice na ns.length nc, .slice a l.length c] 28)) := (Below.refl _ _).alloc (Nat.le_refl _) _
 have gC := nHQ w (.cells #[.int .i64 op, .int .i64 n, .string s, .slice ka kn kc, .slice na ns.length nc, .slice a l.length c] 28)
 have hsz0 : (w.alloc (.cells #[.int .i64 op, .int .i64 n, .string s, .slice ka kn kc, .slice na ns.length nc, .slice a l.length c] 28)).heap.size = w.heap.size + 1 := by simp
 obtain ⟨c0, c1, c2, c3, c4, c5⟩ := cnQ gC
 have HP := hJQ (iBQ h hb0).parts
 have HC0 := hJQ (iBQ h hb0)
 have HC := hJQ (csize_any P _ _ HC0.out hsz)
 have HD := hJQ (fun W (hW : Below w.heap.size w W) => cdepth_any P _ W (iBQ h hW) hsz)
 have HA := hJQ (fun W (hW : Below w.heap.size w W) => formed_any P _ W (hE.below hW) (iBQ h hW) hb)
 have hlt : w.heap.size < (w.alloc (.cells #[.int .i64 op, .int .i64 n, .string s, .slice ka kn kc, .slice na ns.length nc, .slice a l.length c] 28)).heap.size := by omega
 rw [cVQ hks] at HC HD HA
 have hds := depth_size (pC (.mk op n s k (.slice na ns.length nc) ns (.slice a l.length c) l))
 have HE : Hid (∀ b, valC (pC (.mk op n s k (.slice na ns.length nc) ns (.slice a l.length c) l)) = b->Ending.returned (.bool b) = Ending.returned (.bool (valC (pC (.mk op n s k (.slice na ns.length nc) ns (.slice a l.length c) l))))) := fun b hb => by rw [hb]
 clear h hks HP HC0 hb hsz0 hE
 have HV : Hid (valC (pC (.mk op n s k (.slice na ns.length nc) ns (.slice a l.length c) l)) = (decide (sizeC (pC (.mk op n s k (.slice na ns.length nc) ns (.slice a l.length c) l))<=20000) && decide (dCQ (pC (.mk op n s k (.slice na ns.length nc) ns (.slice a l.length c) l))<=400) && frmC (pC (.mk op n s k (.slice na ns.length nc) ns (.slice a l.length c) l)))) := rfl
 generalize pC (.mk op n s k (.slice na ns.length nc) ns (.slice a l.length c) l) = x at *
 go_enter Tryz.func25, Tryz.ntmps25
 go_wp2_with fail
 refine HC.out.mono ?_
 rintro e w2 ⟨rfl, hb2⟩
 have hbw := hb0.trans (hb2.mono hb0.size)
 generalize w.alloc (.cells #[.int .i64 op, .int .i64 n, .string s, .slice ka kn kc, .slice na ns.length nc, .slice a l.length c] 28) = W0 at *
 have g2 := (hb2.block _ hlt).trans gC
 obtain ⟨d0, d1, d2, d3, d4, d5⟩ := cnQ g2
 clear HC c0 c1 c2 c3 c4 c5 gC
 by_cases q1 : (sizeC x : Int)<=20000
 rotate_left
 ·have HE2 := HE.out false (by rw [HV.out, decide_eq_false (show ¬ sizeC x<=20000 by omega)]; rfl)
  clear HE HV HA HD
  go_wp2_with fail
  go_ret
  exact ⟨HE2, hbw⟩
 go_wp2_with fail
 refine (HD.out _ hbw).mono ?_
 rintro e w3 ⟨rfl, hb3⟩
 have hbw3 := hbw.trans (hb3.mono hbw.size)
 have g3 := (hb3.block _ (hLQ g2)).trans g2
 obtain ⟨e0, e1, e2, e3, e4, e5⟩ := cnQ g3
 clear HD d0 d1 d2 d3 d4 d5 g2 hb3
 by_cases q2 : (dCQ x : Int)<=400
 rotate_left
 ·have HE2 := HE.out false (by rw [HV.out, decide_eq_false (show ¬ dCQ x<=400 by omega), Bool.and_false]; rfl)
  clear HE HV HA
  go_wp2_with fail
  go_ret
  exact ⟨HE2, hbw3⟩
 have HE2 := hJQ (HE.out (frmC x) (by rw [HV.out, decide_eq_true (show sizeC x<=20000 by omega), decide_eq_true (show dCQ x<=400 by omega)]; rfl))
 go_wp2_with fail
 refine (HA.out _ hbw3).mono ?_
 rintro e w4 ⟨rfl, hb4⟩
 have hbw4 := hbw3.trans (hb4.mono hbw3.size)
 clear HA HE HV
 generalize frmC x = q at *
 go_wp2_with fail
 go_ret
 exact ⟨HE2.out, hbw4⟩
def RowOut (P : Nat->Prop) (l : List ByteArray) (e : Ending) (w' : World) : Prop := ∃ (a : Option Addr) (c : Nat), e = .returned (.slice a l.length c)/\RowP P w' (.slice a l.length c) l.length (strCells l)
theorem clone_any (P : Nat->Prop) (v : Value) (l : List ByteArray) (w : World) (h : RowP P w v l.length (strCells l)) (hl : l.length<=100000) :
 Calls Tryz.prog 56 #[v] w fun e w' => RowOut (fun b => w.heap.size<=b) l e w'/\Below w.heap.size w w' := by
 obtain ⟨a, c, rfl, hlc, hcell⟩ := h
 have own_row : ∀ (w' : World) (v' : Value), w'.ownsRow w.heap.size 9 1 v' l.length (strCells l)->RowOut (fun b => w.heap.size<=b) l (.returned v') w' := fun w' v' ho => by
  have hr := rowP_owns (P := fun b => w.heap.size<=b) ho (fun b hb => hb)
  obtain ⟨a', c', rfl, hc'⟩ := rSQ hr
  exact ⟨a', c', rfl, hr⟩
 cases a with
 | none =>
   have hl0 : l.length = 0 := by
    rcases Nat.eq_zero_or_pos l.length with h | h
    ·exact h
    ·obtain ⟨b, off, hb, _⟩ := hcell h; cases hb
   obtain rfl : l = [] := List.length_eq_zero_iff.1 hl0
   refine (Tryz.slices_Clone_string_nil 0 c w).mono ?_
   rintro e w' ⟨rfl, rfl⟩
   exact ⟨⟨none, 0, rfl, RowP.nil _ _⟩, Below.refl _ _⟩
 | some a =>
   by_cases hl0 : l.length = 0
   ·obtain rfl : l = [] := List.length_eq_zero_iff.1 hl0
    refine (Tryz.slices_Clone_string_zero a c w).mono ?_
    rintro e w' ⟨v', rfl, ho, _, hb⟩
    exact ⟨own_row w' v' ho, hb⟩
   ·obtain ⟨b, off, hb, _, hlt, hc⟩ := hcell (by omega)
    obtain rfl := oJQ hb
    refine (Tryz.slices_Clone_string b off l.length c l w (Nat.le_refl _) (by omega) (fun j hj => ?_)).mono ?_
    ·rw [hc j (by simpa [strCells] using hj)]
     simp [strCells, List.getD, hj]
    ·rintro e w' ⟨v', rfl, ho, _, hb⟩
     rw [List.take_length] at ho
     exact ⟨own_row w' v' ho, hb⟩
mutual
def rebC (f : Cn->Int->Cn) (d : Int) : Cn->Cn
 | .mk op n s k ns l => if op = 1 ∨ op = 2 then f (.mk op n s k ns l) d else .mk op n s k ns (rebCL f (if binderB op = true then d + 1 else d) l)
def rebCL (f : Cn->Int->Cn) (d : Int) : List Cn->List Cn
 | [] => []
 | x :: r => rebC f d x :: rebCL f d r
end
theorem rebCL_map (f : Cn->Int->Cn) (d : Int) : ∀ l : List Cn, rebCL f d l = l.map (rebC f d)
 | [] => by rw [rebCL]; rfl
 | x :: r => by rw [rebCL, rebCL_map f d r, List.map_cons]
theorem rebC_leaf (f : Cn->Int->Cn) (d op n : Int) (s : ByteArray) (k : Kd) (ns : List ByteArray) (l : List Cn) (h : op = 1 ∨ op = 2) : rebC f d (.mk op n s k ns l) = f (.mk op n s k ns l) d := by rw [rebC, if_pos h]
theorem rebC_node (f : Cn->Int->Cn) (d op n : Int) (s : ByteArray) (k : Kd) (ns : List ByteArray) (l : List Cn) (h : ¬ (op = 1 ∨ op = 2)) : rebC f d (.mk op n s k ns l) = .mk op n s k ns (l.map (rebC f (if binderB op = true then d + 1 else d))) := by rw [rebC, if_neg h, rebCL_map]
theorem fSQ {op n : Int} {s : ByteArray} {k : Kd} {ns : List ByteArray} {l : List Cn} (h : frmC (.mk op n s k ns l) = true) : sizeK k<=100000/\ns.length<=100000/\((op = 1 ∨ op = 3)->0<=n/\n<=20000)/\(∀ x ∈ l, frmC x = true)/\(op = 1 ∨ op = 2->l = []) := by
 obtain ⟨h1, h2⟩ := (formC_iff cstB labsB ..).1 h
 obtain ⟨a1, a2, a3, a4, a5⟩ := node_parts h1
 refine ⟨?_, ?_, (node_op cstB labsB h1).2, h2, fun ho => ?_⟩
 ·split at a4
  ·unfold validK at a4
   simp only [Bool.and_eq_true, decide_eq_true_eq] at a4
   omega
  ·obtain ⟨l⟩ := k
   have : l = [] := List.isEmpty_iff.1 a4
   subst this
   rw [sizeK_mk, sizeKL_nil]; omega
 ·split at a5
  ·unfold labsB at a5
   simp only [Bool.and_eq_true, decide_eq_true_eq] at a5
   omega
  ·rw [List.isEmpty_iff] at a5; subst a5; simp
 ·have : partsC op ns.length = 0 := by
   unfold partsC
   rcases ho with rfl | rfl <;> simp [labelledB, binderB]
  rw [this] at a1
  exact List.length_eq_zero_iff.1 (by omega)
end Go.Proofs.YtkiffgdinmpljaaGreatDoor
