/- The reference's normal. Printed by gen_rnormal.py, expanded by mac.py. -/
import Derived.Test.YtkiffgdinmpljaaGreatDoorF43
set_option linter.unusedVariables false
set_option linter.unusedSimpArgs false
namespace Go.Proofs.YtkiffgdinmpljaaGreatDoor
open Go Go.RowKit
set_option maxHeartbeats 8000000
set_option maxRecDepth 100000
theorem rnormal_any : ∀ (x : ConD) (P : Nat->Prop) (w : World), IsCon P w x->frmC (pC x) = true->dCQ (pC x)<=20000->sizeC (pC x)<=100000 →
 Calls Tryz.prog 29 #[conV x] w fun e w' => e = .returned (.bool (normalC (pC x)))/\Below w.heap.size w w' := by
 refine ConD.ind (fun op n s k nv ns lv l ih P w h hf hd hsz => ?_)
 have hfz := fSQ (by rw [pMQ] at hf; exact hf)
 have hdl : ∀ y ∈ l.map pC, frmC y = true/\dCQ y<=20000/\sizeC y<=100000 := fun y hy => ⟨hfz.2.2.2.1 y hy, by
  rw [pMQ, depthC_mk] at hd
  have := depthCL_ge' _ _ hy
  omega, by
  rw [pMQ, sMQ] at hsz
  have := sLQ _ _ hy
  omega⟩
 have hRed : normalC (pC (.mk op n s k nv ns lv l)) = (!((op == 12 && ((l.map pC).getD 0 default).op == 11) || etaC (pC (.mk op n s k nv ns lv l))) && (l.map pC).all normalC) := by
  rw [pMQ, normalC_mk]; rfl
 obtain ⟨ka, kc, kn, hks⟩ := iKQ h.parts.kind
 obtain ⟨na, nc, rfl, _⟩ := rSQ h.parts.names
 obtain ⟨a, c, rfl, _⟩ := rSQ h.parts.row
 rw [cVQ hks]
 have hll : l.length<=9223372036854775807 := by have h1 := h.parts.llen; have : maxLen = 9223372036854775807 := (by decide); omega
 have hnn : ns.length<=9223372036854775807 := by have h1 := h.parts.nlen; have : maxLen = 9223372036854775807 := (by decide); omega
 have hb0 : Below w.heap.size w (w.alloc (.cells #[.int .i64 op, .int .i64 n, .string s, .slice ka kn kc, .slice na ns.length nc, .slice a l.length c] 28)) := (Below.refl _ _).alloc (Nat.le_refl _) _
 have gC := nHQ w (.cells #[.int .i64 op, .int .i64 n, .string s, .slice ka kn kc, .slice na ns.length nc, .slice a l.length c] 28)
 have hsz0 : (w.alloc (.cells #[.int .i64 op, .int .i64 n, .string s, .slice ka kn kc, .slice na ns.length nc, .slice a l.length c] 28)).heap.size = w.heap.size + 1 := by simp
 obtain ⟨c0, c1, c2, c3, c4, c5⟩ := cnQ gC
 have HP := hJQ (iBQ h hb0).parts
 have HC0 := hJQ (iBQ h hb0)
 have hPW := cVQ (op := op) (n := n) (s := s) (nv := .slice na ns.length nc) (lv := .slice a l.length c) (ns := ns) (l := l) hks
 have HEta : Hid (∀ W, Below w.heap.size w W->Calls Tryz.prog 59 #[(.agg #[.int .i64 op, .int .i64 n, .string s, .slice ka kn kc, .slice na ns.length nc, .slice a l.length c])] W fun e w' => e = .returned (.bool (etaC (pC (.mk op n s k (.slice na ns.length nc) ns (.slice a l.length c) l))))/\Below W.heap.size W w') := fun W hW => by
  rw [← hPW]; exact reta_any P _ W (iBQ h hW) hf hd hsz
 have HF : Hid (∀ b, normalC (pC (.mk op n s k (.slice na ns.length nc) ns (.slice a l.length c) l)) = b->Ending.returned (.bool b) = Ending.returned (.bool (normalC (pC (.mk op n s k (.slice na ns.length nc) ns (.slice a l.length c) l))))) := fun b hb => by rw [hb]
 have HRed := hJQ hRed
 have HI := hJQ ih
 have HX := hJQ h
 have HFS := hJQ hdl
 have hlt : w.heap.size < (w.alloc (.cells #[.int .i64 op, .int .i64 n, .string s, .slice ka kn kc, .slice na ns.length nc, .slice a l.length c] 28)).heap.size := by omega
 have h2 : op = 12->l.length = 2 := fun e => by
  subst e
  rw [pMQ] at hf
  obtain ⟨fd, gd, rfl⟩ := two_parts hf
  rfl
 have HPc := HC0.out.parts
 clear hRed hf hd hfz hdl hPW ih HC0 HP h hsz hks
 by_cases q12 : op = 12
 ·subst q12
  have h0l : 0 < l.length := by have := h2 rfl; omega
  obtain ⟨b, off, yop, yn, ys, yk, yns, yl, yka, ykn, ykc, yna, ync, ya, yc', fd, hbl, hq, hy, hmem, hv, HT, e0, e1, e2, e3, e4, e5⟩ := part_at HPc.row HPc.all 0 h0l
  subst fd
  have f0 : (w.alloc (.cells #[.int .i64 12, .int .i64 n, .string s, .slice ka kn kc, .slice na ns.length nc, .slice (some ⟨b, off, none⟩) l.length c] 28)).cell? ⟨b, off, none⟩ = some (.int .i64 yop) := by simpa using e0
  have hop0 : ((l.map pC).getD 0 default).op = yop := by rw [map_getD pC l 0 h0l, hq, pMQ]; rfl
  have HO0 := hJQ hop0
  clear hbl hq hy hmem hv HT e0 e1 e2 e3 e4 e5 h2 HPc hop0
  by_cases q11 : yop = 11
  ·have HE := hJQ (HF.out false (by rw [HRed.out, HO0.out, q11]; rfl))
   subst q11
   clear HF HRed HEta HI HFS HX
   go_enter Tryz.func29, Tryz.ntmps29
   go_wp2_with fail
   go_ret
   exact ⟨HE.out, hb0⟩
  ·have q11' : (yop == 11) = false := beq_eq_false_iff_ne.2 q11
   have HR2 : Hid (normalC (pC (.mk 12 n s k (.slice na ns.length nc) ns (.slice (some ⟨b, off, none⟩) l.length c) l)) = (!etaC (pC (.mk 12 n s k (.slice na ns.length nc) ns (.slice (some ⟨b, off, none⟩) l.length c) l)) && (l.map pC).all normalC)) := by
    show _ = _
    rw [HRed.out, HO0.out, q11']; rfl
   clear HRed
   obtain ⟨be, hbe⟩ : ∃ q9, etaC (pC (.mk 12 n s k (.slice na ns.length nc) ns (.slice (some ⟨b, off, none⟩) l.length c) l)) = q9 := ⟨_, rfl⟩
   rw [hbe] at HEta HR2
   clear hbe
   go_enter Tryz.func29, Tryz.ntmps29
   go_wp2_with fail
   refine (HEta.out _ hb0).mono ?_
   rintro e w2 ⟨rfl, hb2⟩
   have hbw2 := hb0.trans (hb2.mono hb0.size)
   have g2 := (hb2.block _ hlt).trans gC
   obtain ⟨d0, d1, d2, d3, d4, d5⟩ := cnQ g2
   clear HEta c0 c1 c2 c3 c4 c5
   cases be
   rotate_left
   ·have HE := hJQ (HF.out false (by rw [HR2.out]; rfl))
    clear HF HR2
    go_wp2_with fail
    go_ret
    exact ⟨HE.out, hbw2⟩
   have HE0 := hJQ (HR2.out)
   clear HR2
   go_wp2_with fail
   go_loopw [3] (fun i wr => ∃ (j : Nat), j<=l.length/\i = .int .i64 j/\Hid (((l.map pC).take j).all normalC = true)/\Below w2.heap.size w2 wr) (fun i _ => l.length - (intOf i).toNat)
   case atStart => exact ⟨0, Nat.zero_le _, rfl, (by show _ = _; rw [List.take_zero]; rfl), Below.refl _ _⟩
   case round =>
    rename World => V
    obtain ⟨j, hj, rfl, HM, hbr⟩ := hrel
    have gV := (hbr.block _ (hLQ g2)).trans g2
    obtain ⟨c0, c1, c2, c3, c4, c5⟩ := cnQ gV
    by_cases hjl : j < l.length
    ·have HV : Hid (Kept P w V) := Kept.of_below (hbw2.trans (hbr.mono hbw2.size))
     obtain ⟨b9, off9, yop, yn, ys, yk, yns, yl, yka, ykn, ykc, yna, ync, ya, yc', fd, hbl, hq, hy, hmem, hv, HT, e0, e1, e2, e3, e4, e5⟩ := part_at (HV.out.row HX.out.parts.row) (fun y hy => HV.out.con (HX.out.parts.all y hy)) j hjl
     obtain ⟨rfl, rfl⟩ : b = b9/\off = off9 := by injection fd with fd1; injection fd1 with fd2 fd3; exact ⟨fd2, fd3⟩
     have HT := hJQ HT
     have hm' : pC (.mk yop yn ys yk (.slice yna yns.length ync) yns (.slice ya yl.length yc') yl) ∈ l.map pC := List.mem_map_of_mem hmem
     have HC := hJQ (HI.out _ hmem P _ hy (HFS.out _ hm').1 (HFS.out _ hm').2.1 (HFS.out _ hm').2.2)
     rw [hv] at HC
     have HM' := hJQ hm'
     clear hy hv hmem hq hm'
     generalize pC (.mk yop yn ys yk (.slice yna yns.length ync) yns (.slice ya yl.length yc') yl) = y at *
     go_wp2_with fail
     refine HC.out.mono ?_
     rintro e w3 ⟨rfl, hb3⟩
     have hbr2 := hbr.trans (hb3.mono hbr.size)
     have hbz2 := hbw2.trans (hbr2.mono hbw2.size)
     obtain ⟨bb, hbb⟩ : ∃ b, normalC y = b := ⟨_, rfl⟩
     rw [hbb]
     have HBB := hJQ hbb
     clear hbb HC
     cases bb
     ·have HE := hJQ (HF.out false (by
       rw [HE0.out]
       have : (l.map pC).all normalC = false := by
        rw [List.all_eq_false]; exact ⟨y, HM'.out, by rw [HBB.out]; decide⟩
       rw [this]; rfl))
      clear HF HE0
      go_wp2_with fail
      go_ret
      exact ⟨HE.out, hbz2⟩
     ·have HM2 : Hid (((l.map pC).take (j + 1)).all normalC = true) := by
       show _ = _
       rw [HT.out, List.all_append, HM.out, List.all_cons, List.all_nil, HBB.out]; rfl
      clear HM HT
      go_wp2_with fail
      go_roundw
      case rel => exact ⟨j + 1, by omega, by go_num, HM2, hbr2⟩
      case measure => simp [intOf]; omega
    ·obtain rfl : j = l.length := by omega
     have hbz2 := hbw2.trans (hbr.mono hbw2.size)
     have HE := hJQ (HF.out true (by rw [HE0.out]; have := HM.out; rw [take_all] at this; rw [this]; rfl))
     clear HF HE0 HM
     go_wp2_with fail
     go_ret
     exact ⟨HE.out, hbz2⟩
 ·have q12' : (op == 12) = false := beq_eq_false_iff_ne.2 q12
  have HR2 : Hid (normalC (pC (.mk op n s k (.slice na ns.length nc) ns (.slice a l.length c) l)) = (!etaC (pC (.mk op n s k (.slice na ns.length nc) ns (.slice a l.length c) l)) && (l.map pC).all normalC)) := by
   show _ = _
   rw [HRed.out, q12']; rfl
  clear HRed h2 HPc
  obtain ⟨be, hbe⟩ : ∃ q9, etaC (pC (.mk op n s k (.slice na ns.length nc) ns (.slice a l.length c) l)) = q9 := ⟨_, rfl⟩
  rw [hbe] at HEta HR2
  clear hbe
  go_enter Tryz.func29, Tryz.ntmps29
  go_wp2_with fail
  refine (HEta.out _ hb0).mono ?_
  rintro e w2 ⟨rfl, hb2⟩
  have hbw2 := hb0.trans (hb2.mono hb0.size)
  have g2 := (hb2.block _ hlt).trans gC
  obtain ⟨d0, d1, d2, d3, d4, d5⟩ := cnQ g2
  clear HEta c0 c1 c2 c3 c4 c5
  cases be
  rotate_left
  ·have HE := hJQ (HF.out false (by rw [HR2.out]; rfl))
   clear HF HR2
   go_wp2_with fail
   go_ret
   exact ⟨HE.out, hbw2⟩
  have HE0 := hJQ (HR2.out)
  clear HR2
  go_wp2_with fail
  go_loopw [3] (fun i wr => ∃ (j : Nat), j<=l.length/\i = .int .i64 j/\Hid (((l.map pC).take j).all normalC = true)/\Below w2.heap.size w2 wr) (fun i _ => l.length - (intOf i).toNat)
  case atStart => exact ⟨0, Nat.zero_le _, rfl, (by show _ = _; rw [List.take_zero]; rfl), Below.refl _ _⟩
  case round =>
   rename World => V
   obtain ⟨j, hj, rfl, HM, hbr⟩ := hrel
   have gV := (hbr.block _ (hLQ g2)).trans g2
   obtain ⟨c0, c1, c2, c3, c4, c5⟩ := cnQ gV
   by_cases hjl : j < l.length
   ·have HV : Hid (Kept P w V) := Kept.of_below (hbw2.trans (hbr.mono hbw2.size))
    obtain ⟨b, off, yop, yn, ys, yk, yns, yl, yka, ykn, ykc, yna, ync, ya, yc', fd, hbl, hq, hy, hmem, hv, HT, e0, e1, e2, e3, e4, e5⟩ := part_at (HV.out.row HX.out.parts.row) (fun y hy => HV.out.con (HX.out.parts.all y hy)) j hjl
    subst fd
    have HT := hJQ HT
    have hm' : pC (.mk yop yn ys yk (.slice yna yns.length ync) yns (.slice ya yl.length yc') yl) ∈ l.map pC := List.mem_map_of_mem hmem
    have HC := hJQ (HI.out _ hmem P _ hy (HFS.out _ hm').1 (HFS.out _ hm').2.1 (HFS.out _ hm').2.2)
    rw [hv] at HC
    have HM' := hJQ hm'
    clear hy hv hmem hq hm'
    generalize pC (.mk yop yn ys yk (.slice yna yns.length ync) yns (.slice ya yl.length yc') yl) = y at *
    go_wp2_with fail
    refine HC.out.mono ?_
    rintro e w3 ⟨rfl, hb3⟩
    have hbr2 := hbr.trans (hb3.mono hbr.size)
    have hbz2 := hbw2.trans (hbr2.mono hbw2.size)
    obtain ⟨bb, hbb⟩ : ∃ b, normalC y = b := ⟨_, rfl⟩
    rw [hbb]
    have HBB := hJQ hbb
    clear hbb HC
    cases bb
    ·have HE := hJQ (HF.out false (by
      rw [HE0.out]
      have : (l.map pC).all normalC = false := by
       rw [List.all_eq_false]; exact ⟨y, HM'.out, by rw [HBB.out]; decide⟩
      rw [this]; rfl))
     clear HF HE0
     go_wp2_with fail
     go_ret
     exact ⟨HE.out, hbz2⟩
    ·have HM2 : Hid (((l.map pC).take (j + 1)).all normalC = true) := by
      show _ = _
      rw [HT.out, List.all_append, HM.out, List.all_cons, List.all_nil, HBB.out]; rfl
     clear HM HT
     go_wp2_with fail
     go_roundw
     case rel => exact ⟨j + 1, by omega, by go_num, HM2, hbr2⟩
     case measure => simp [intOf]; omega
   ·obtain rfl : j = l.length := by omega
    have hbz2 := hbw2.trans (hbr.mono hbw2.size)
    have HE := hJQ (HF.out true (by rw [HE0.out]; have := HM.out; rw [take_all] at this; rw [this]; rfl))
    clear HF HE0 HM
    go_wp2_with fail
    go_ret
    exact ⟨HE.out, hbz2⟩
theorem rIs_any (P : Nat->Prop) (x : ConD) (w : World) (h : IsCon P w x) (hb : bndC (pC x)) :
 Calls Tryz.prog 10 #[conV x] w fun e w' => e = .returned (.bool (valC (pC x) && normalC (pC x)))/\Below w.heap.size w w' := by
 obtain ⟨op, n, s, k, nv, ns, lv, l⟩ := x
 obtain ⟨ka, kc, kn, hks⟩ := iKQ h.parts.kind
 obtain ⟨na, nc, rfl, _⟩ := rSQ h.parts.names
 obtain ⟨a, c, rfl, _⟩ := rSQ h.parts.row
 rw [cVQ hks]
 have hll : l.length<=9223372036854775807 := by have h1 := h.parts.llen; have : maxLen = 9223372036854775807 := (by decide); omega
 have hnn : ns.length<=9223372036854775807 := by have h1 := h.parts.nlen; have : maxLen = 9223372036854775807 := (by decide); omega
 have hb0 : Below w.heap.size w (w.alloc (.cells #[.int .i64 op, .int .i64 n, .string s, .slice ka kn kc, .slice na ns.length nc, .slice a l.length c] 28)) := (Below.refl _ _).alloc (Nat.le_refl _) _
 have gC := nHQ w (.cells #[.int .i64 op, .int .i64 n, .string s, .slice ka kn kc, .slice na ns.length nc, .slice a l.length c] 28)
 have hsz0 : (w.alloc (.cells #[.int .i64 op, .int .i64 n, .string s, .slice ka kn kc, .slice na ns.length nc, .slice a l.length c] 28)).heap.size = w.heap.size + 1 := by simp
 obtain ⟨c0, c1, c2, c3, c4, c5⟩ := cnQ gC
 have HP := hJQ (iBQ h hb0).parts
 have HC0 := hJQ (iBQ h hb0)
 have hPW := cVQ (op := op) (n := n) (s := s) (nv := .slice na ns.length nc) (lv := .slice a l.length c) (ns := ns) (l := l) hks
 have HV : Hid (Calls Tryz.prog 12 #[(.agg #[.int .i64 op, .int .i64 n, .string s, .slice ka kn kc, .slice na ns.length nc, .slice a l.length c])] (w.alloc (.cells #[.int .i64 op, .int .i64 n, .string s, .slice ka kn kc, .slice na ns.length nc, .slice a l.length c] 28)) fun e w' => e = .returned (.bool (valC (pC (.mk op n s k (.slice na ns.length nc) ns (.slice a l.length c) l))))/\Below (w.alloc (.cells #[.int .i64 op, .int .i64 n, .string s, .slice ka kn kc, .slice na ns.length nc, .slice a l.length c] 28)).heap.size (w.alloc (.cells #[.int .i64 op, .int .i64 n, .string s, .slice ka kn kc, .slice na ns.length nc, .slice a l.length c] 28)) w') := by
  have := rvalid_any P _ _ HC0.out hb
  rw [hPW] at this
  exact this
 have HN : Hid (valC (pC (.mk op n s k (.slice na ns.length nc) ns (.slice a l.length c) l)) = true->∀ W, Below w.heap.size w W->Calls Tryz.prog 29 #[(.agg #[.int .i64 op, .int .i64 n, .string s, .slice ka kn kc, .slice na ns.length nc, .slice a l.length c])] W fun e w' => e = .returned (.bool (normalC (pC (.mk op n s k (.slice na ns.length nc) ns (.slice a l.length c) l))))/\Below W.heap.size W w') := fun hv W hW => by
  obtain ⟨hv1, hv2, hv3⟩ := val_iff.1 hv
  have := rnormal_any _ P W (iBQ h hW) hv3 (by omega) (by omega)
  rw [hPW] at this
  exact this
 have hlt : w.heap.size < (w.alloc (.cells #[.int .i64 op, .int .i64 n, .string s, .slice ka kn kc, .slice na ns.length nc, .slice a l.length c] 28)).heap.size := by omega
 clear h hks hPW HP HC0 hb
 generalize pC (.mk op n s k (.slice na ns.length nc) ns (.slice a l.length c) l) = x at *
 have HF : Hid (∀ b, (valC x && normalC x) = b->Ending.returned (.bool b) = Ending.returned (.bool (valC x && normalC x))) := fun b hb => by rw [hb]
 go_enter Tryz.func10, Tryz.ntmps10
 go_wp2_with fail
 refine HV.out.mono ?_
 rintro e w2 ⟨rfl, hb2⟩
 have hbw2 := hb0.trans (hb2.mono hb0.size)
 have g2 := (hb2.block _ hlt).trans gC
 obtain ⟨d0, d1, d2, d3, d4, d5⟩ := cnQ g2
 clear HV c0 c1 c2 c3 c4 c5
 obtain ⟨bv, hbv⟩ : ∃ b, valC x = b := ⟨_, rfl⟩
 rw [hbv] at HN ⊢
 cases bv
 ·have HE := hJQ (HF.out false (by rw [hbv]; rfl))
  clear HN hbv HF
  go_wp2_with fail
  go_ret
  exact ⟨HE.out, hbw2⟩
 ·have HN2 := hJQ (HN.out rfl _ hbw2)
  clear HN
  obtain ⟨bn, hbn⟩ : ∃ b, normalC x = b := ⟨_, rfl⟩
  rw [hbn] at HN2
  have HE := hJQ (HF.out bn (by rw [hbv, hbn]; rfl))
  clear hbn hbv HF
  go_wp2_with fail
  refine HN2.out.mono ?_
  rintro e w3 ⟨rfl, hb3⟩
  have hbw3 := hbw2.trans (hb3.mono hbw2.size)
  clear HN2
  go_wp2_with fail
  go_ret
  exact ⟨HE.out, hbw3⟩
theorem is_any (P : Nat->Prop) (x : ConD) (w : World) (h : IsCon P w x) (hb : bndC (pC x)) (hE : EnvN w) (hsz : sizeC (pC x)<=1000000000) :
 Calls Tryz.prog 9 #[conV x] w fun e w' => e = .returned (.bool (valC (pC x) && normalC (pC x)))/\Below w.heap.size w w' := by
 obtain ⟨op, n, s, k, nv, ns, lv, l⟩ := x
 obtain ⟨ka, kc, kn, hks⟩ := iKQ h.parts.kind
 obtain ⟨na, nc, rfl, _⟩ := rSQ h.parts.names
 obtain ⟨a, c, rfl, _⟩ := rSQ h.parts.row
 rw [cVQ hks]
 have hll : l.length<=9223372036854775807 := by have h1 := h.parts.llen; have : maxLen = 9223372036854775807 := (by decide); omega
 have hnn : ns.length<=9223372036854775807 := by have h1 := h.parts.nlen; have : maxLen = 9223372036854775807 := (by decide); omega
 have hb0 : Below w.heap.size w (w.alloc (.cells #[.int .i64 op, .int .i64 n, .string s, .slice ka kn kc, .slice na ns.length nc, .slice a l.length c] 28)) := (Below.refl _ _).alloc (Nat.le_refl _) _
 have gC := nHQ w (.cells #[.int .i64 op, .int .i64 n, .string s, .slice ka kn kc, .slice na ns.length nc, .slice a l.length c] 28)
 have hsz0 : (w.alloc (.cells #[.int .i64 op, .int .i64 n, .string s, .slice ka kn kc, .slice na ns.length nc, .slice a l.length c] 28)).heap.size = w.heap.size + 1 := by simp
 obtain ⟨c0, c1, c2, c3, c4, c5⟩ := cnQ gC
 have HP := hJQ (iBQ h hb0).parts
 have HC0 := hJQ (iBQ h hb0)
 have hPW := cVQ (op := op) (n := n) (s := s) (nv := .slice na ns.length nc) (lv := .slice a l.length c) (ns := ns) (l := l) hks
 have HV : Hid (Calls Tryz.prog 25 #[(.agg #[.int .i64 op, .int .i64 n, .string s, .slice ka kn kc, .slice na ns.length nc, .slice a l.length c])] (w.alloc (.cells #[.int .i64 op, .int .i64 n, .string s, .slice ka kn kc, .slice na ns.length nc, .slice a l.length c] 28)) fun e w' => e = .returned (.bool (valC (pC (.mk op n s k (.slice na ns.length nc) ns (.slice a l.length c) l))))/\Below (w.alloc (.cells #[.int .i64 op, .int .i64 n, .string s, .slice ka kn kc, .slice na ns.length nc, .slice a l.length c] 28)).heap.size (w.alloc (.cells #[.int .i64 op, .int .i64 n, .string s, .slice ka kn kc, .slice na ns.length nc, .slice a l.length c] 28)) w') := by
  have := valid_any P _ _ (hE.below hb0) HC0.out hb hsz
  rw [hPW] at this
  exact this
 have HN : Hid (valC (pC (.mk op n s k (.slice na ns.length nc) ns (.slice a l.length c) l)) = true->∀ W, Below w.heap.size w W->Calls Tryz.prog 28 #[(.agg #[.int .i64 op, .int .i64 n, .string s, .slice ka kn kc, .slice na ns.length nc, .slice a l.length c])] W fun e w' => e = .returned (.bool (normalC (pC (.mk op n s k (.slice na ns.length nc) ns (.slice a l.length c) l))))/\Below W.heap.size W w') := fun hv W hW => by
  obtain ⟨hv1, hv2, hv3⟩ := val_iff.1 hv
  have := isNormal_any _ P W (iBQ h hW) hv3 (by omega)
  rw [hPW] at this
  exact this
 have hlt : w.heap.size < (w.alloc (.cells #[.int .i64 op, .int .i64 n, .string s, .slice ka kn kc, .slice na ns.length nc, .slice a l.length c] 28)).heap.size := by omega
 clear h hks hPW HP HC0 hb
 generalize pC (.mk op n s k (.slice na ns.length nc) ns (.slice a l.length c) l) = x at *
 have HF : Hid (∀ b, (valC x && normalC x) = b->Ending.returned (.bool b) = Ending.returned (.bool (valC x && normalC x))) := fun b hb => by rw [hb]
 go_enter Tryz.func9, Tryz.ntmps9
 go_wp2_with fail
 refine HV.out.mono ?_
 rintro e w2 ⟨rfl, hb2⟩
 have hbw2 := hb0.trans (hb2.mono hb0.size)
 have g2 := (hb2.block _ hlt).trans gC
 obtain ⟨d0, d1, d2, d3, d4, d5⟩ := cnQ g2
 clear HV c0 c1 c2 c3 c4 c5
 obtain ⟨bv, hbv⟩ : ∃ b, valC x = b := ⟨_, rfl⟩
 rw [hbv] at HN ⊢
 cases bv
 ·have HE := hJQ (HF.out false (by rw [hbv]; rfl))
  clear HN hbv HF
  go_wp2_with fail
  go_ret
  exact ⟨HE.out, hbw2⟩
 ·have HN2 := hJQ (HN.out rfl _ hbw2)
  clear HN
  obtain ⟨bn, hbn⟩ : ∃ b, normalC x = b := ⟨_, rfl⟩
  rw [hbn] at HN2
  have HE := hJQ (HF.out bn (by rw [hbv, hbn]; rfl))
  clear hbn hbv HF
  go_wp2_with fail
  refine HN2.out.mono ?_
  rintro e w3 ⟨rfl, hb3⟩
  have hbw3 := hbw2.trans (hb3.mono hbw2.size)
  clear HN2
  go_wp2_with fail
  go_ret
  exact ⟨HE.out, hbw3⟩
end Go.Proofs.YtkiffgdinmpljaaGreatDoor
