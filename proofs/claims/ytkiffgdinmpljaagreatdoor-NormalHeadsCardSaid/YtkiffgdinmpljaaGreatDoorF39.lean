/- The reference's Same of strings, SameKind, Same: both answers. Printed by gen_rsamef.py, expanded by mac.py. -/
import Derived.Test.YtkiffgdinmpljaaGreatDoorF38
set_option linter.unusedVariables false
set_option linter.unusedSimpArgs false
namespace Go.Proofs.YtkiffgdinmpljaaGreatDoor
open Go Go.RowKit
set_option maxHeartbeats 8000000
set_option maxRecDepth 100000
def SaysOk (p : Prop) (w : World) (e : Ending) (w' : World) : Prop := ∃ b : Bool, e = .returned (.bool b)/\(b = true ↔ p)/\Below w.heap.size w w'
theorem says_no {p : Prop} (h : ¬ p) : (false = true ↔ p) := ⟨(fun k => by cases k), (fun k => absurd k h)⟩
theorem bytes_ne {x y : ByteArray} (h : ¬ x = y) : (x.toList == y.toList) = false :=
 beq_eq_false_iff_ne.2 (fun e => h (ByteArray.ext (Array.toList_inj.1 (by rw [← Go.ByteArray.toList_eq, ← Go.ByteArray.toList_eq]; exact e))))
theorem says_yes {p : Prop} (h : p) : (true = true ↔ p) := ⟨fun _ => h, fun _ => rfl⟩
theorem list_ext {α : Type} (_d : α) (l l2 : List α) (hl : l2.length = l.length) (h : l.take l.length = l2.take l.length) : l = l2 := by
 rw [List.take_length, ← hl, List.take_length] at h
 exact h
theorem take_next {α : Type} (d : α) (l l2 : List α) (hl : l2.length = l.length) (j : Nat) (hj : j < l.length) (h : l.take j = l2.take j) (hx : l.getD j d = l2.getD j d) : l.take (j + 1) = l2.take (j + 1) := by
 rw [take_get d l j hj, take_get d l2 j (by omega), h, hx]
theorem rsameSf_any (P Q : Nat->Prop) (v u : Value) (l l2 : List ByteArray) (w : World) (h : RowP P w v l.length (strCells l)) (k : RowP Q w u l2.length (strCells l2)) (hl : l.length<=9223372036854775807) :
 Calls Tryz.prog 34 #[v, u] w (SaysOk (l = l2) w) := by
 have H := hJQ h
 have K0 := hJQ k
 obtain ⟨a, c, rfl, _⟩ := rSQ h
 obtain ⟨a2, c2, rfl, _⟩ := rSQ k
 clear h k
 by_cases hlen : l2.length = l.length
 rotate_left
 ·have hne : ((l.length : Int) != l2.length) = true := nNQ (by omega)
  have HN : Hid (¬ l = l2) := fun e => hlen (by rw [e])
  clear hlen
  go_enter Tryz.func34, Tryz.ntmps34
  go_wp2_with fail
  go_ret
  exact ⟨false, rfl, says_no HN.out, Below.refl _ _⟩
 have HL := hJQ hlen
 rw [hlen]
 clear hlen
 go_enter Tryz.func34, Tryz.ntmps34
 go_wp2_with fail
 go_loopw [5] (fun i wr => ∃ (j : Nat), j<=l.length/\i = .int .i64 j/\Hid (l.take j = l2.take j)/\Below w.heap.size w wr) (fun i _ => l.length - (intOf i).toNat)
 case atStart => exact ⟨0, Nat.zero_le _, rfl, (by show _ = _; rw [List.take_zero, List.take_zero]), Below.refl _ _⟩
 case round =>
  rename World => V
  obtain ⟨j, hj, rfl, HM, hbV⟩ := hrel
  by_cases hjl : j < l.length
  ·obtain ⟨b, off, c', fd, hbl, e0⟩ := row_cell (rowP_below H.out hbV) j (by unfold strCells; rw [List.length_map]; exact hjl) (by omega)
   obtain ⟨b2, off2, c2', fd2, hbl2, e1⟩ := row_cell (rowP_below K0.out hbV) j (by unfold strCells; rw [List.length_map, HL.out]; exact hjl) (by rw [HL.out]; omega)
   obtain ⟨rfl, -⟩ := Value.slice.inj fd
   obtain ⟨rfl, -⟩ := Value.slice.inj fd2
   rw [strCells_getD l j hjl] at e0
   rw [strCells_getD l2 j (by rw [HL.out]; exact hjl)] at e1
   have HNx := hJQ (take_next ⟨#[]⟩ l l2 HL.out j hjl HM.out)
   have HNo : Hid (l = l2->l.getD j ⟨#[]⟩ = l2.getD j ⟨#[]⟩) := fun e => by rw [e]
   generalize l.getD j ⟨#[]⟩ = x at *
   generalize l2.getD j ⟨#[]⟩ = y at *
   clear fd fd2
   by_cases hxy : x = y
   ·subst hxy
    have HM2 := hJQ (HNx.out rfl)
    go_upto_region 6 with fail
    have S0 : (fun w9 => w9.cell? ⟨b, off + j, none⟩ = some (.string x)/\w9.cell? ⟨b2, off2 + j, none⟩ = some (.string x)) V.drew := ⟨e0, e1⟩
    clear e0 e1 HNx HNo
    refine wp_region_held_drew (S := (fun w9 => w9.cell? ⟨b, off + j, none⟩ = some (.string x)/\w9.cell? ⟨b2, off2 + j, none⟩ = some (.string x))) (by kernel_rfl) S0 (fun hHeld => ?_)
    refine tks (b := ?_) (by kernel_rfl) (fun _ _ _ _ _ h => h) S0 9 [0, 1, 2, 3, 4, 5, 6, 7, 8] (by kernel_rfl) ?_ ?_
    rotate_left
    ·iterate 9 (refine yc (v := ?_) rfl rfl (by rfl) (fun w9 hSw => ?_) ?_; rotate_left; (focus go_simp; try rfl); simp only [Act.put, l1Q, l2Q, l3Q])
     exact rfl
    refine wpAnyH_done (by kernel_rfl) ?_ _
    have HB := hJQ (hbV.drew)
    clear hHeld S0
    go_wp2_with fail
    go_roundw
    case rel => exact ⟨j + 1, by omega, by go_num, HM2, HB.out⟩
    case measure => simp [intOf]; omega
   ·have hne : (x.toList == y.toList) = false := bytes_ne hxy
    have HN : Hid (¬ l = l2) := fun e => hxy (HNo.out e)
    clear hxy HNx HNo HM
    go_upto_region 6 with fail
    have S0 : (fun w9 => w9.cell? ⟨b, off + j, none⟩ = some (.string x)/\w9.cell? ⟨b2, off2 + j, none⟩ = some (.string y)) V.drew := ⟨e0, e1⟩
    clear e0 e1
    refine wp_region_held_drew (S := (fun w9 => w9.cell? ⟨b, off + j, none⟩ = some (.string x)/\w9.cell? ⟨b2, off2 + j, none⟩ = some (.string y))) (by kernel_rfl) S0 (fun hHeld => ?_)
    refine tks (b := ?_) (by kernel_rfl) (fun _ _ _ _ _ h => h) S0 9 [0, 1, 2, 3, 4, 5, 6, 7, 8] (by kernel_rfl) ?_ ?_
    rotate_left
    ·iterate 9 (refine yc (v := ?_) rfl rfl (by rfl) (fun w9 hSw => ?_) ?_; rotate_left; (focus go_simp; try rfl); simp only [Act.put, l1Q, l2Q, l3Q])
     exact rfl
    refine wpAnyH_done (by kernel_rfl) ?_ _
    have HB := hJQ (hbV.drew)
    clear hHeld S0
    go_wp2_with fail
    go_ret
    exact ⟨false, rfl, says_no HN.out, HB.out⟩
  ·obtain rfl : j = l.length := by omega
   have HY : Hid (l = l2) := list_ext ⟨#[]⟩ l l2 HL.out HM.out
   go_wp2_with fail
   go_ret
   exact ⟨true, rfl, says_yes HY.out, hbV⟩
theorem rsameKf_any : ∀ (k1 k2 : KindD) (w : World), IsKind (fun _ => True) w k1->IsKind (fun _ => True) w k2 →
 Calls Tryz.prog 33 #[kindV k1, kindV k2] w (SaysOk (pK k1 = pK k2) w) := by
 refine KindD.ind (fun v l ih k2 w h h2 => ?_)
 obtain ⟨v2, l2⟩ := k2
 obtain ⟨hr, hm, hall⟩ := h.parts
 obtain ⟨hr2, hm2, hall2⟩ := h2.parts
 have he : (pK (.mk v l) = pK (.mk v2 l2)) ↔ (l.map pK = l2.map pK) := by
  rw [pureK_mk, pureK_mk]
  exact ⟨fun e => by injection e, fun e => by rw [e]⟩
 obtain ⟨a, c, rfl, _⟩ := rSQ hr
 obtain ⟨a2, c2, rfl, _⟩ := rSQ hr2
 have HR := hJQ hr
 have HR2 := hJQ hr2
 have HA := hJQ hall
 have HA2 := hJQ hall2
 have HI := hJQ ih
 have HE := hJQ he
 have hm' : l.length<=9223372036854775807 := by
  have : maxLen = 9223372036854775807 := by decide
  omega
 rw [show kindV (.mk (.slice a l.length c) l) = .agg #[.slice a l.length c] from rfl, show kindV (.mk (.slice a2 l2.length c2) l2) = .agg #[.slice a2 l2.length c2] from rfl]
 by_cases hlen : l2.length = l.length
 rotate_left
 ·have hg1 := gAQ (w.alloc (.cells #[.slice a l.length c] 24)) (.cells #[.slice a2 l2.length c2] 24)
  have s1 : (w.alloc (.cells #[.slice a l.length c] 24)).heap.size = w.heap.size + 1 := by simp
  have c0 := cOQ ((hg1.block w.heap.size (by omega) (by nofun)).trans (nHQ w (.cells #[.slice a l.length c] 24)))
  have c1 : ((w.alloc (.cells #[.slice a l.length c] 24)).alloc (.cells #[.slice a2 l2.length c2] 24)).cell? ⟨w.heap.size + 1, 0, none⟩ = _ := cOQ ((congrArg _ s1.symm).trans (nHQ (w.alloc (.cells #[.slice a l.length c] 24)) (.cells #[.slice a2 l2.length c2] 24)))
  have HB := hJQ (gUQ (B := w.heap.size) (gBQ (gAQ w (.cells #[.slice a l.length c] 24)) hg1) (nLQ _) (by nofun))
  have hne : ((l.length : Int) != l2.length) = true := nNQ (by omega)
  have HN : Hid (¬ (pK (.mk (.slice a l.length c) l) = pK (.mk (.slice a2 l2.length c2) l2))) := fun e => hlen (by have := congrArg List.length (he.1 e); simpa using this.symm)
  clear hr hr2 hall hall2 ih h h2 hm hm2 he hg1 s1 hlen
  go_enter Tryz.func33, Tryz.ntmps33
  go_wp2_with fail
  go_ret
  exact ⟨false, rfl, says_no HN.out, HB.out⟩
 have HL := hJQ hlen
 rw [hlen]
 have hg1 := gAQ (w.alloc (.cells #[.slice a l.length c] 24)) (.cells #[.slice a2 l.length c2] 24)
 have s1 : (w.alloc (.cells #[.slice a l.length c] 24)).heap.size = w.heap.size + 1 := by simp
 have k0 := (hg1.block w.heap.size (by omega) (by nofun)).trans (nHQ w (.cells #[.slice a l.length c] 24))
 have k1 : ((w.alloc (.cells #[.slice a l.length c] 24)).alloc (.cells #[.slice a2 l.length c2] 24)).heap[w.heap.size + 1]? = _ := (congrArg _ s1.symm).trans (nHQ (w.alloc (.cells #[.slice a l.length c] 24)) (.cells #[.slice a2 l.length c2] 24))
 have hbW := gUQ (B := w.heap.size) (gBQ (gAQ w (.cells #[.slice a l.length c] 24)) hg1) (nLQ _) (by nofun)
 clear hr hr2 hall hall2 ih h h2 hm hm2 he hg1 s1 hlen
 go_enter Tryz.func33, Tryz.ntmps33
 have c0 := cOQ k0
 have c1 := cOQ k1
 go_wp2_with fail
 generalize ((w.alloc (.cells #[.slice a l.length c] 24)).alloc (.cells #[.slice a2 l.length c2] 24)) = W at *
 clear c0 c1
 go_loopw [5] (fun i wr => ∃ (j : Nat), j<=l.length/\i = .int .i64 j/\Hid ((l.map pK).take j = (l2.map pK).take j)/\Below W.heap.size W wr) (fun i _ => l.length - (intOf i).toNat)
 case atStart => exact ⟨0, Nat.zero_le _, rfl, (by show _ = _; rw [List.take_zero, List.take_zero]), Below.refl _ _⟩
 case round =>
  rename World => V
  obtain ⟨j, hj, rfl, HM, hbV⟩ := hrel
  have hbwV := hbW.trans (hbV.mono hbW.size)
  have g0 := (hbV.block _ (hLQ k0)).trans k0
  have g1 := (hbV.block _ (hLQ k1)).trans k1
  have c0 := cOQ g0
  have c1 := cOQ g1
  by_cases hjl : j < l.length
  ·have HK : Hid (Kept (fun _ => True) w V) := Kept.of_below hbwV
   obtain ⟨b, off, m, l', ka, kc, fd, hbl, hq, hy, hmem, HT, e0⟩ := kind_at (HK.out.row HR.out) (fun y hy => HK.out.kind (HA.out y hy)) j hjl
   obtain ⟨b2, off2, m2, l2', ka2, kc2, fd2, hbl2, hq2, hy2, hmem2, HT2, e1⟩ := kind_at (HK.out.row HR2.out) (fun y hy => HK.out.kind (HA2.out y hy)) j (by rw [HL.out]; exact hjl)
   subst fd
   subst fd2
   have hp1 : (l.map pK).getD j default = pK (.mk (.slice ka m kc) l') := by rw [map_getD pK l j hjl, hq]
   have hp2 : (l2.map pK).getD j default = pK (.mk (.slice ka2 m2 kc2) l2') := by rw [map_getD pK l2 j (by rw [HL.out]; exact hjl), hq2]
   have HNx : Hid (pK (.mk (.slice ka m kc) l') = pK (.mk (.slice ka2 m2 kc2) l2')->(l.map pK).take (j + 1) = (l2.map pK).take (j + 1)) := fun e => take_next default _ _ (by rw [List.length_map, List.length_map]; exact HL.out) j (by rw [List.length_map]; exact hjl) HM.out (by rw [hp1, hp2, e])
   have HNo : Hid (¬ pK (.mk (.slice ka m kc) l') = pK (.mk (.slice ka2 m2 kc2) l2')->¬ pK (.mk (.slice (some ⟨b, off, none⟩) l.length c) l) = pK (.mk (.slice (some ⟨b2, off2, none⟩) l2.length c2) l2)) := fun hn e => hn (by rw [← hp1, ← hp2, HE.out.1 e])
   have HC : Hid (∀ W9, Below V.heap.size V W9->Calls Tryz.prog 33 #[.agg #[.slice ka m kc], .agg #[.slice ka2 m2 kc2]] W9 (SaysOk (pK (.mk (.slice ka m kc) l') = pK (.mk (.slice ka2 m2 kc2) l2')) W9)) := fun W9 hW9 => by
    have := HI.out _ hmem (.mk (.slice ka2 m2 kc2) l2') W9 (hy.keep hW9.size (fun b _ hlt => hW9.block b hlt)) (hy2.keep hW9.size (fun b _ hlt => hW9.block b hlt))
    exact this
   have HSA : Hid (∀ W9, Below V.heap.size V W9->(fun w9 => w9.cell? ⟨w.heap.size, 0, none⟩ = some (.slice (some ⟨b, off, none⟩) l.length c)/\w9.cell? ⟨w.heap.size + 1, 0, none⟩ = some (.slice (some ⟨b2, off2, none⟩) l.length c2)/\w9.cell? ⟨b, off + j, none⟩ = some (.slice ka m kc)/\w9.cell? ⟨b2, off2 + j, none⟩ = some (.slice ka2 m2 kc2)) W9) := fun W9 hW9 => ⟨cOQ ((hW9.block _ (hLQ g0)).trans g0), cOQ ((hW9.block _ (hLQ g1)).trans g1), (World.cell?_of_block (a := ⟨b, off + j, none⟩) (hW9.block b hbl)).trans e0, (World.cell?_of_block (a := ⟨b2, off2 + j, none⟩) (hW9.block b2 hbl2)).trans e1⟩
   clear hy hy2 hmem hmem2 hq hq2 HT HT2 hp1 hp2
   go_upto_region 6 with fail
   have hbD : Below V.heap.size V V.drew := (Below.refl _ _).drew
   have S0 := HSA.out _ hbD
   clear c0 c1 e0 e1
   refine wp_region_held_drew (S := (fun w9 => w9.cell? ⟨w.heap.size, 0, none⟩ = some (.slice (some ⟨b, off, none⟩) l.length c)/\w9.cell? ⟨w.heap.size + 1, 0, none⟩ = some (.slice (some ⟨b2, off2, none⟩) l.length c2)/\w9.cell? ⟨b, off + j, none⟩ = some (.slice ka m kc)/\w9.cell? ⟨b2, off2 + j, none⟩ = some (.slice ka2 m2 kc2))) (by kernel_rfl) S0 (fun hHeld => ?_)
   refine tks (b := ?_) (by kernel_rfl) (fun _ _ _ _ _ h => h) S0 10 [0, 1, 2, 3, 4, 5, 6, 7, 8, 9] (by kernel_rfl) ?_ ?_
   rotate_left
   ·iterate 10 (refine yc (v := ?_) rfl rfl (by rfl) (fun w9 hSw => ?_) ?_; rotate_left; (focus go_simp; try rfl); simp only [Act.put, l1Q, l2Q, l3Q])
    exact rfl
   refine rd1 10 (by kernel_rfl) (by rfl) (fun K hK => ?_)
   go_simp
   go_at_call 33
   refine (HC.out _ hbD).mono ?_
   rintro e w1 ⟨bb, rfl, hbb, hb1⟩
   have HBB := hJQ hbb
   clear hbb
   have hbV1 := hbD.trans (hb1.mono hbD.size)
   have S1 := HSA.out _ hbV1
   refine hK.out _ _ S1 (fun _ => ?_)
   clear hK K
   refine rd1 11 (by kernel_rfl) (by rfl) (fun K hK => ?_)
   go_simp
   refine hK.out _ _ S1 (fun _ => ?_)
   clear hK K
   refine wpAnyH_done (by kernel_rfl) ?_ _
   have HB2 := hJQ (hbV.trans (hbV1.mono hbV.size))
   have HB3 := hJQ (hbwV.trans (hbV1.mono hbwV.size))
   clear hHeld S0 S1 HC HSA hb1 hbV1 hbD
   cases bb
   ·have HN := hJQ (HNo.out (fun e => by have := HBB.out.2 e; cases this))
    clear HBB HNo HNx
    go_wp2_with fail
    go_ret
    exact ⟨false, rfl, says_no HN.out, HB3.out⟩
   ·have HM2 := hJQ (HNx.out (HBB.out.1 rfl))
    clear HBB HNo HNx
    go_wp2_with fail
    go_roundw
    case rel => exact ⟨j + 1, by omega, by go_num, HM2, HB2.out⟩
    case measure => simp [intOf]; omega
  ·obtain rfl : j = l.length := by omega
   have HY : Hid (pK (.mk (.slice a l.length c) l) = pK (.mk (.slice a2 l2.length c2) l2)) := by
    refine HE.out.2 ?_
    have h9 := HM.out
    rw [take_all, ← HL.out, take_all] at h9
    exact h9
   go_wp2_with fail
   go_ret
   exact ⟨true, rfl, says_yes HY.out, hbwV⟩
theorem rsamef_any : ∀ (d1 d2 : ConD) (w : World), IsCon (fun _ => True) w d1->IsCon (fun _ => True) w d2 →
 Calls Tryz.prog 13 #[conV d1, conV d2] w (SaysOk (pC d1 = pC d2) w) := by
 refine ConD.ind (fun op n s k nv ns lv l ih d2 w h h2 => ?_)
 obtain ⟨xop, xn, xs, xk, xnv, xns, xlv, xl⟩ := d2
 obtain ⟨ka, kc, kn, hks⟩ := iKQ h.parts.kind
 obtain ⟨na, nc, rfl, _⟩ := rSQ h.parts.names
 obtain ⟨a, c, rfl, _⟩ := rSQ h.parts.row
 obtain ⟨xka, xkc, xkn, xks⟩ := iKQ h2.parts.kind
 obtain ⟨xna, xnc, rfl, _⟩ := rSQ h2.parts.names
 obtain ⟨xa, xc, rfl, _⟩ := rSQ h2.parts.row
 have he : (pC (.mk op n s k (.slice na ns.length nc) ns (.slice a l.length c) l) = pC (.mk xop xn xs xk (.slice xna xns.length xnc) xns (.slice xa xl.length xc) xl)) ↔ (op = xop/\n = xn/\s = xs/\pK k = pK xk/\ns = xns/\l.map pC = xl.map pC) := by
  rw [pMQ, pMQ]
  constructor
  ·intro e
   injection e with e1 e2 e3 e4 e5 e6
   exact ⟨e1, e2, e3, e4, e5, e6⟩
  ·rintro ⟨rfl, rfl, rfl, e4, rfl, e6⟩
   rw [e4, e6]
 rw [cVQ hks, cVQ xks]
 have hll : l.length<=9223372036854775807 := by have h1 := h.parts.llen; have : maxLen = 9223372036854775807 := (by decide); omega
 have hnn : ns.length<=9223372036854775807 := by have h1 := h.parts.nlen; have : maxLen = 9223372036854775807 := (by decide); omega
 have hg1 := gAQ (w.alloc (.cells #[.int .i64 op, .int .i64 n, .string s, .slice ka kn kc, .slice na ns.length nc, .slice a l.length c] 28)) (.cells #[.int .i64 xop, .int .i64 xn, .string xs, .slice xka xkn xkc, .slice xna xns.length xnc, .slice xa xl.length xc] 28)
 have s1 : (w.alloc (.cells #[.int .i64 op, .int .i64 n, .string s, .slice ka kn kc, .slice na ns.length nc, .slice a l.length c] 28)).heap.size = w.heap.size + 1 := by simp
 have k0 := (hg1.block w.heap.size (by omega) (by nofun)).trans (nHQ w (.cells #[.int .i64 op, .int .i64 n, .string s, .slice ka kn kc, .slice na ns.length nc, .slice a l.length c] 28))
 have k1 : ((w.alloc (.cells #[.int .i64 op, .int .i64 n, .string s, .slice ka kn kc, .slice na ns.length nc, .slice a l.length c] 28)).alloc (.cells #[.int .i64 xop, .int .i64 xn, .string xs, .slice xka xkn xkc, .slice xna xns.length xnc, .slice xa xl.length xc] 28)).heap[w.heap.size + 1]? = _ := (congrArg _ s1.symm).trans (nHQ (w.alloc (.cells #[.int .i64 op, .int .i64 n, .string s, .slice ka kn kc, .slice na ns.length nc, .slice a l.length c] 28)) (.cells #[.int .i64 xop, .int .i64 xn, .string xs, .slice xka xkn xkc, .slice xna xns.length xnc, .slice xa xl.length xc] 28))
 have hbW := gUQ (B := w.heap.size) (gBQ (gAQ w (.cells #[.int .i64 op, .int .i64 n, .string s, .slice ka kn kc, .slice na ns.length nc, .slice a l.length c] 28)) hg1) (nLQ _) (by nofun)
 have HKd : Hid (∀ W, Below w.heap.size w W->Calls Tryz.prog 33 #[.agg #[.slice ka kn kc], .agg #[.slice xka xkn xkc]] W (SaysOk (pK k = pK xk) W)) := fun W hW => by
  have := rsameKf_any k xk W (h.parts.kind.keep hW.size (fun b _ hlt => hW.block b hlt)) (h2.parts.kind.keep hW.size (fun b _ hlt => hW.block b hlt))
  rw [show kindV k = .agg #[k.v] from rfl, show kindV xk = .agg #[xk.v] from rfl, hks, xks] at this
  exact this
 have HNm : Hid (∀ W, Below w.heap.size w W->Calls Tryz.prog 34 #[.slice na ns.length nc, .slice xna xns.length xnc] W (SaysOk (ns = xns) W)) := fun W hW => rsameSf_any _ _ _ _ ns xns W (rowP_below h.parts.names hW) (rowP_below h2.parts.names hW) hnn
 have HP := hJQ h.parts
 have HP2 := hJQ h2.parts
 have HE := hJQ he
 have HI := hJQ ih
 obtain ⟨c0, c1, c2, c3, c4, c5⟩ := cnQ k0
 obtain ⟨d0, d1, d2, d3, d4, d5⟩ := cnQ k1
 clear h h2 he hks xks ih hg1 s1
 by_cases q1 : op = xop
 rotate_left
 ·have HN : Hid (¬ pC (.mk op n s k (.slice na ns.length nc) ns (.slice a l.length c) l) = pC (.mk xop xn xs xk (.slice xna xns.length xnc) xns (.slice xa xl.length xc) xl)) := fun e => q1 (HE.out.1 e).1
  clear HE HKd HNm HP HP2 HI k0 k1
  have q9 : (op != xop) = true := nNQ q1
  go_enter Tryz.func13, Tryz.ntmps13
  go_wp2_with fail
  go_ret
  exact ⟨false, rfl, says_no HN.out, hbW⟩
 subst q1
 by_cases q2 : n = xn
 rotate_left
 ·have HN : Hid (¬ pC (.mk op n s k (.slice na ns.length nc) ns (.slice a l.length c) l) = pC (.mk op xn xs xk (.slice xna xns.length xnc) xns (.slice xa xl.length xc) xl)) := fun e => q2 (HE.out.1 e).2.1
  clear HE HKd HNm HP HP2 HI k0 k1
  have q9 : (n != xn) = true := nNQ q2
  go_enter Tryz.func13, Tryz.ntmps13
  go_wp2_with fail
  go_ret
  exact ⟨false, rfl, says_no HN.out, hbW⟩
 subst q2
 by_cases q3 : s = xs
 rotate_left
 ·have HN : Hid (¬ pC (.mk op n s k (.slice na ns.length nc) ns (.slice a l.length c) l) = pC (.mk op n xs xk (.slice xna xns.length xnc) xns (.slice xa xl.length xc) xl)) := fun e => q3 (HE.out.1 e).2.2.1
  clear HE HKd HNm HP HP2 HI k0 k1
  have q9 : (s.toList == xs.toList) = false := bytes_ne q3
  go_enter Tryz.func13, Tryz.ntmps13
  go_wp2_with fail
  go_ret
  exact ⟨false, rfl, says_no HN.out, hbW⟩
 subst q3
 by_cases hlen : xl.length = l.length
 rotate_left
 ·have HN : Hid (¬ pC (.mk op n s k (.slice na ns.length nc) ns (.slice a l.length c) l) = pC (.mk op n s xk (.slice xna xns.length xnc) xns (.slice xa xl.length xc) xl)) := fun e => hlen (by have := congrArg List.length (HE.out.1 e).2.2.2.2.2; simpa using this.symm)
  clear HE HKd HNm HP HP2 HI k0 k1
  have q9 : ((l.length : Int) != xl.length) = true := nNQ (by omega)
  go_enter Tryz.func13, Tryz.ntmps13
  go_wp2_with fail
  go_ret
  exact ⟨false, rfl, says_no HN.out, hbW⟩
 have HL := hJQ hlen
 have HD : Hid (ConD.mk op n s xk (.slice xna xns.length xnc) xns (.slice xa xl.length xc) xl = ConD.mk op n s xk (.slice xna xns.length xnc) xns (.slice xa xl.length xc) xl) := rfl
 clear HD
 rw [hlen] at k0 k1 hbW c0 c1 c2 c3 c4 c5 d0 d1 d2 d3 d4 d5 ⊢
 clear hlen
 go_enter Tryz.func13, Tryz.ntmps13
 go_wp2_with fail
 have k0 := hJQ k0
 have k1 := hJQ k1
 refine (HKd.out _ hbW).mono ?_
 rintro e w2 ⟨bk, rfl, hbk, hb2⟩
 have HBK := hJQ hbk
 have hbw2 := hbW.trans (hb2.mono hbW.size)
 have g0 := (hb2.block _ (hLQ k0.out)).trans k0.out
 have g1 := (hb2.block _ (hLQ k1.out)).trans k1.out
 clear c0 c1 c2 c3 c4 c5 d0 d1 d2 d3 d4 d5 HKd hbk
 obtain ⟨c0, c1, c2, c3, c4, c5⟩ := cnQ g0
 obtain ⟨d0, d1, d2, d3, d4, d5⟩ := cnQ g1
 cases bk
 ·have HN : Hid (¬ pC (.mk op n s k (.slice na ns.length nc) ns (.slice a l.length c) l) = pC (.mk op n s xk (.slice xna xns.length xnc) xns (.slice xa xl.length xc) xl)) := fun e => by have := HBK.out.2 (HE.out.1 e).2.2.2.1; cases this
  clear HE HNm HP HP2 HI k0 k1 g0 g1 HBK
  go_wp2_with fail
  go_ret
  exact ⟨false, rfl, says_no HN.out, hbw2⟩
 go_wp2_with fail
 refine (HNm.out _ hbw2).mono ?_
 rintro e w3 ⟨bn, rfl, hbn, hb3⟩
 have HBN := hJQ hbn
 have hbw3 := hbw2.trans (hb3.mono hbw2.size)
 have q0 := (hb3.block _ (hLQ g0)).trans g0
 have q1 := (hb3.block _ (hLQ g1)).trans g1
 clear c0 c1 c2 c3 c4 c5 d0 d1 d2 d3 d4 d5 HNm hbn
 cases bn
 ·have HN : Hid (¬ pC (.mk op n s k (.slice na ns.length nc) ns (.slice a l.length c) l) = pC (.mk op n s xk (.slice xna xns.length xnc) xns (.slice xa xl.length xc) xl)) := fun e => by have := HBN.out.2 (HE.out.1 e).2.2.2.2.1; cases this
  clear HE HP HP2 HI k0 k1 g0 g1 HBK HBN q0 q1
  go_wp2_with fail
  go_ret
  exact ⟨false, rfl, says_no HN.out, hbw3⟩
 obtain ⟨c0, c1, c2, c3, c4, c5⟩ := cnQ q0
 obtain ⟨d0, d1, d2, d3, d4, d5⟩ := cnQ q1
 go_wp2_with fail
 clear c0 c1 c2 c3 c4 c5 d0 d1 d2 d3 d4 d5
 go_loopw [5] (fun i wr => ∃ (j : Nat), j<=l.length/\i = .int .i64 j/\Hid ((l.map pC).take j = (xl.map pC).take j)/\Below w3.heap.size w3 wr) (fun i _ => l.length - (intOf i).toNat)
 case atStart => exact ⟨0, Nat.zero_le _, rfl, (by show _ = _; rw [List.take_zero, List.take_zero]), Below.refl _ _⟩
 case round =>
  rename World => V
  obtain ⟨j, hj, rfl, HM, hbV⟩ := hrel
  have hbwV := hbw3.trans (hbV.mono hbw3.size)
  have v0 := (hbV.block _ (hLQ q0)).trans q0
  have v1 := (hbV.block _ (hLQ q1)).trans q1
  obtain ⟨c0, c1, c2, c3, c4, c5⟩ := cnQ v0
  obtain ⟨d0, d1, d2, d3, d4, d5⟩ := cnQ v1
  by_cases hjl : j < l.length
  ·have HV : Hid (Kept (fun _ => True) w V) := Kept.of_below hbwV
   obtain ⟨b, off, yop, yn, ys, yk, yns, yl, yka, ykn, ykc, yna, ync, ya, ycc, yfd, ybl, yq, yy, ymem, yv, yHT, y0, y1, y2, y3, y4, y5⟩ := part_at (HV.out.row HP.out.row) (fun y hy => HV.out.con (HP.out.all y hy)) j hjl
   obtain ⟨b2, off2, zop, zn, zs, zk, zns, zl, zka, zkn, zkc, zna, znc, za, zcc, zfd, zbl, zq, zy, zmem, zv, zHT, z0, z1, z2, z3, z4, z5⟩ := part_at (HV.out.row HP2.out.row) (fun y hy => HV.out.con (HP2.out.all y hy)) j (by rw [HL.out]; exact hjl)
   subst yfd
   subst zfd
   have hp1 : (l.map pC).getD j default = pC (.mk yop yn ys yk (.slice yna yns.length ync) yns (.slice ya yl.length ycc) yl) := by rw [map_getD pC l j hjl, yq]
   have hp2 : (xl.map pC).getD j default = pC (.mk zop zn zs zk (.slice zna zns.length znc) zns (.slice za zl.length zcc) zl) := by rw [map_getD pC xl j (by rw [HL.out]; exact hjl), zq]
   have HNx : Hid (pC (.mk yop yn ys yk (.slice yna yns.length ync) yns (.slice ya yl.length ycc) yl) = pC (.mk zop zn zs zk (.slice zna zns.length znc) zns (.slice za zl.length zcc) zl)->(l.map pC).take (j + 1) = (xl.map pC).take (j + 1)) := fun e => take_next default _ _ (by rw [List.length_map, List.length_map]; exact HL.out) j (by rw [List.length_map]; exact hjl) HM.out (by rw [hp1, hp2, e])
   have HNo : Hid (¬ pC (.mk yop yn ys yk (.slice yna yns.length ync) yns (.slice ya yl.length ycc) yl) = pC (.mk zop zn zs zk (.slice zna zns.length znc) zns (.slice za zl.length zcc) zl)->¬ pC (.mk op n s k (.slice na ns.length nc) ns (.slice (some ⟨b, off, none⟩) l.length c) l) = pC (.mk op n s xk (.slice xna xns.length xnc) xns (.slice (some ⟨b2, off2, none⟩) xl.length xc) xl)) := fun hn e => hn (by rw [← hp1, ← hp2, (HE.out.1 e).2.2.2.2.2])
   have HC : Hid (∀ W9, Below V.heap.size V W9->Calls Tryz.prog 13 #[.agg #[.int .i64 yop, .int .i64 yn, .string ys, .slice yka ykn ykc, .slice yna yns.length ync, .slice ya yl.length ycc], .agg #[.int .i64 zop, .int .i64 zn, .string zs, .slice zka zkn zkc, .slice zna zns.length znc, .slice za zl.length zcc]] W9 (SaysOk (pC (.mk yop yn ys yk (.slice yna yns.length ync) yns (.slice ya yl.length ycc) yl) = pC (.mk zop zn zs zk (.slice zna zns.length znc) zns (.slice za zl.length zcc) zl)) W9)) := fun W9 hW9 => by
    have := HI.out _ ymem (.mk zop zn zs zk (.slice zna zns.length znc) zns (.slice za zl.length zcc) zl) W9 (iBQ yy hW9) (iBQ zy hW9)
    rw [yv, zv] at this
    exact this
   have HSA : Hid (∀ W9, Below V.heap.size V W9->(fun w9 => w9.cell? ⟨w.heap.size, 5, none⟩ = some (.slice (some ⟨b, off, none⟩) l.length c)/\w9.cell? ⟨w.heap.size + 1, 5, none⟩ = some (.slice (some ⟨b2, off2, none⟩) l.length xc)/\w9.cell? ⟨b, off + j * 6, none⟩ = some (.int .i64 yop)/\w9.cell? ⟨b, off + j * 6 + 1, none⟩ = some (.int .i64 yn)/\w9.cell? ⟨b, off + j * 6 + 2, none⟩ = some (.string ys)/\w9.cell? ⟨b, off + j * 6 + 3, none⟩ = some (.slice yka ykn ykc)/\w9.cell? ⟨b, off + j * 6 + 4, none⟩ = some (.slice yna yns.length ync)/\w9.cell? ⟨b, off + j * 6 + 5, none⟩ = some (.slice ya yl.length ycc)/\w9.cell? ⟨b2, off2 + j * 6, none⟩ = some (.int .i64 zop)/\w9.cell? ⟨b2, off2 + j * 6 + 1, none⟩ = some (.int .i64 zn)/\w9.cell? ⟨b2, off2 + j * 6 + 2, none⟩ = some (.string zs)/\w9.cell? ⟨b2, off2 + j * 6 + 3, none⟩ = some (.slice zka zkn zkc)/\w9.cell? ⟨b2, off2 + j * 6 + 4, none⟩ = some (.slice zna zns.length znc)/\w9.cell? ⟨b2, off2 + j * 6 + 5, none⟩ = some (.slice za zl.length zcc)) W9) := fun W9 hW9 => by
    have cy : ∀ (o : Nat) (v : Value), V.cell? ⟨b, o, none⟩ = some v->W9.cell? ⟨b, o, none⟩ = some v := fun o v hc => (World.cell?_of_block (a := ⟨b, o, none⟩) (hW9.block b ybl)).trans hc
    have cz : ∀ (o : Nat) (v : Value), V.cell? ⟨b2, o, none⟩ = some v->W9.cell? ⟨b2, o, none⟩ = some v := fun o v hc => (World.cell?_of_block (a := ⟨b2, o, none⟩) (hW9.block b2 zbl)).trans hc
    exact ⟨(cnQ ((hW9.block _ (hLQ v0)).trans v0)).2.2.2.2.2, (cnQ ((hW9.block _ (hLQ v1)).trans v1)).2.2.2.2.2, cy _ _ y0, cy _ _ y1, cy _ _ y2, cy _ _ y3, cy _ _ y4, cy _ _ y5, cz _ _ z0, cz _ _ z1, cz _ _ z2, cz _ _ z3, cz _ _ z4, cz _ _ z5⟩
   clear yy zy ymem zmem yq zq yHT zHT hp1 hp2 yv zv
   go_upto_region 6 with fail
   have hbD : Below V.heap.size V V.drew := (Below.refl _ _).drew
   have S0 := HSA.out _ hbD
   clear c0 c1 c2 c3 c4 c5 d0 d1 d2 d3 d4 d5 y0 y1 y2 y3 y4 y5 z0 z1 z2 z3 z4 z5
   refine wp_region_held_drew (S := (fun w9 => w9.cell? ⟨w.heap.size, 5, none⟩ = some (.slice (some ⟨b, off, none⟩) l.length c)/\w9.cell? ⟨w.heap.size + 1, 5, none⟩ = some (.slice (some ⟨b2, off2, none⟩) l.length xc)/\w9.cell? ⟨b, off + j * 6, none⟩ = some (.int .i64 yop)/\w9.cell? ⟨b, off + j * 6 + 1, none⟩ = some (.int .i64 yn)/\w9.cell? ⟨b, off + j * 6 + 2, none⟩ = some (.string ys)/\w9.cell? ⟨b, off + j * 6 + 3, none⟩ = some (.slice yka ykn ykc)/\w9.cell? ⟨b, off + j * 6 + 4, none⟩ = some (.slice yna yns.length ync)/\w9.cell? ⟨b, off + j * 6 + 5, none⟩ = some (.slice ya yl.length ycc)/\w9.cell? ⟨b2, off2 + j * 6, none⟩ = some (.int .i64 zop)/\w9.cell? ⟨b2, off2 + j * 6 + 1, none⟩ = some (.int .i64 zn)/\w9.cell? ⟨b2, off2 + j * 6 + 2, none⟩ = some (.string zs)/\w9.cell? ⟨b2, off2 + j * 6 + 3, none⟩ = some (.slice zka zkn zkc)/\w9.cell? ⟨b2, off2 + j * 6 + 4, none⟩ = some (.slice zna zns.length znc)/\w9.cell? ⟨b2, off2 + j * 6 + 5, none⟩ = some (.slice za zl.length zcc))) (by kernel_rfl) S0 (fun hHeld => ?_)
   refine tks (b := ?_) (by kernel_rfl) (fun _ _ _ _ _ h => h) S0 10 [0, 1, 2, 3, 4, 5, 6, 7, 8, 9] (by kernel_rfl) ?_ ?_
   rotate_left
   ·iterate 10 (refine yc (v := ?_) rfl rfl (by rfl) (fun w9 hSw => ?_) ?_; rotate_left; (focus go_simp; try rfl); simp only [Act.put, l1Q, l2Q, l3Q])
    exact rfl
   refine rd1 10 (by kernel_rfl) (by rfl) (fun K hK => ?_)
   go_simp
   go_at_call 13
   refine (HC.out _ hbD).mono ?_
   rintro e w1 ⟨bb, rfl, hbb, hb1⟩
   have HBB := hJQ hbb
   clear hbb
   have hbV1 := hbD.trans (hb1.mono hbD.size)
   have S1 := HSA.out _ hbV1
   refine hK.out _ _ S1 (fun _ => ?_)
   clear hK K
   refine rd1 11 (by kernel_rfl) (by rfl) (fun K hK => ?_)
   go_simp
   refine hK.out _ _ S1 (fun _ => ?_)
   clear hK K
   refine wpAnyH_done (by kernel_rfl) ?_ _
   have HB2 := hJQ (hbV.trans (hbV1.mono hbV.size))
   have HB3 := hJQ (hbwV.trans (hbV1.mono hbwV.size))
   clear hHeld S0 S1 HC HSA hb1 hbV1 hbD
   cases bb
   ·have HN := hJQ (HNo.out (fun e => by have := HBB.out.2 e; cases this))
    clear HBB HNo HNx
    go_wp2_with fail
    go_ret
    exact ⟨false, rfl, says_no HN.out, HB3.out⟩
   ·have HM2 := hJQ (HNx.out (HBB.out.1 rfl))
    clear HBB HNo HNx
    go_wp2_with fail
    go_roundw
    case rel => exact ⟨j + 1, by omega, by go_num, HM2, HB2.out⟩
    case measure => simp [intOf]; omega
  ·obtain rfl : j = l.length := by omega
   have HY : Hid (pC (.mk op n s k (.slice na ns.length nc) ns (.slice a l.length c) l) = pC (.mk op n s xk (.slice xna xns.length xnc) xns (.slice xa xl.length xc) xl)) := by
    refine HE.out.2 ⟨by trivial, by trivial, by trivial, HBK.out.1 (by trivial), HBN.out.1 (by trivial), ?_⟩
    have h9 := HM.out
    rw [take_all, ← HL.out, take_all] at h9
    exact h9
   go_wp2_with fail
   go_ret
   exact ⟨true, rfl, says_yes HY.out, hbwV⟩
theorem same_yes (d1 d2 : ConD) (w : World) (h1 : IsCon (fun _ => True) w d1) (h2 : IsCon (fun _ => True) w d2) (he : pC d1 = pC d2) :
 Calls Tryz.prog 13 #[conV d1, conV d2] w fun e w' => e = .returned (.bool true)/\Below w.heap.size w w' :=
 (rsamef_any d1 d2 w h1 h2).mono fun e w' h => by obtain ⟨b, rfl, hb, hbl⟩ := h; rw [hb.2 he]; exact ⟨rfl, hbl⟩
end Go.Proofs.YtkiffgdinmpljaaGreatDoor
