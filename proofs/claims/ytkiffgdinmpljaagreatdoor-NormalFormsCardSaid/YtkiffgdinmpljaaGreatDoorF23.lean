/- eta, isNormal. Expanded by mac.py. -/
import Derived.Test.YtkiffgdinmpljaaGreatDoorF22
set_option linter.unusedVariables false
set_option linter.unusedSimpArgs false
namespace Go.Proofs.YtkiffgdinmpljaaGreatDoor
open Go Go.RowKit
set_option maxHeartbeats 8000000
set_option maxRecDepth 100000
theorem eta_any (P : Nat->Prop) (x : ConD) (w : World) (h : IsCon P w x) (hf : frmC (pC x) = true) (hdp : dCQ (pC x)<=900000) :
 Calls Tryz.prog 57 #[conV x] w (EtaOk x w) := by
 obtain ⟨op, n, s, k, nv, ns, lv, l⟩ := x
 by_cases q1 : op = 11
 ·subst q1
  rw [pMQ] at hf hdp
  obtain ⟨y, rfl⟩ := one_part hf rfl
  by_cases q2 : y.op = 12
  ·obtain ⟨yop, yn, ys, yk, ynv, yns, ylv, yl⟩ := y
   have q2 : yop = 12 := q2
   subst q2
   have hfy : frmC (pC (.mk 12 yn ys yk ynv yns ylv yl)) = true := (fSQ hf).2.2.2.1 _ (by simp)
   rw [pMQ] at hfy
   obtain ⟨fd, gd, rfl⟩ := two_parts hfy
   refine eta_app P n s k nv ns lv yn ys yk ynv yns ylv fd gd w h ?_
   rw [depthC_mk, List.map_cons, List.map_nil, depthCL_cons, pMQ, depthC_mk, List.map_cons, depthCL_cons] at hdp
   omega
  ·exact eta_part P n s k nv ns lv y w h q2
 ·exact eta_no P op n s k nv ns lv l w h q1
def NormAll (x : ConD) : Prop := ∀ (P : Nat->Prop) (w : World), IsCon P w x->frmC (pC x) = true->dCQ (pC x)<=900000->Calls Tryz.prog 28 #[conV x] w fun e w' => e = .returned (.bool (normalC (pC x)))/\Below w.heap.size w w'
theorem norm1_any (P : Nat->Prop) (x : ConD) (H : NormAll x) (w : World) (h : IsCon P w x) (hf : frmC (pC x) = true) (hd : dCQ (pC x)<=900000) :
 Calls Tryz.prog 58 (#[conV x] ++ #[]) w fun e w' => e = .returned (.bool (!normalC (pC x)))/\Below w.heap.size w w' := by
 obtain ⟨op, n, s, k, nv, ns, lv, l⟩ := x
 obtain ⟨ka, kc, kn, hks⟩ := iKQ h.parts.kind
 obtain ⟨na, nc, rfl, _⟩ := rSQ h.parts.names
 obtain ⟨a, c, rfl, _⟩ := rSQ h.parts.row
 rw [cVQ hks]
 have hll : l.length<=9223372036854775807 := by have h1 := h.parts.llen; have : maxLen = 9223372036854775807 := (by decide); omega
 have hnn : ns.length<=9223372036854775807 := by have h1 := h.parts.nlen; have : maxLen = 9223372036854775807 := (by decide); omega
 have hb0 : Below w.heap.size w (w.alloc (.cells #[.int .i64 op, .int .i64 n, .string s, .slice ka kn kc, .slice na ns.length nc, .slice a l.length c] 28)) := (Below.refl _ _).alloc (Nat.le_refl _) _
 have gC := nHQ w (.cells #[.int .i64 op, .int .i64 n, .string s, .slice ka kn kc, .slice na ns.length nc, .slice a l.length c] 28)
 have hsz0 : (w.alloc (.cells #[.int .i64 op, .int .i64 n, .string s, .slice ka kn kc, .slice na ns.length nc, .slice a l.length c] 28)).heap.size = w.heap.size + 1 := by simp
 obtain ⟨c0, c1, c2, c3, c4, c5⟩ := cnQ gC
 have HP := hJQ (iBQ h hb0).parts
 have HC0 := hJQ (iBQ h hb0)
 have HC := hJQ (H P _ HC0.out hf hd)
 rw [cVQ hks] at HC
 clear h hks HP HC0 hf hd hsz0 gC H
 generalize pC (.mk op n s k (.slice na ns.length nc) ns (.slice a l.length c) l) = x at *
 go_enter Tryz.func58, Tryz.ntmps58
 go_wp2_with fail
 refine HC.out.mono ?_
 rintro e w2 ⟨rfl, hb2⟩
 have hbz := hb0.trans (hb2.mono hb0.size)
 clear HC
 go_wp2_with fail
 go_ret
 exact ⟨rfl, hbz⟩
theorem normL_any (P : Nat->Prop) (v : Value) (l : List ConD) (H : ∀ y ∈ l, NormAll y) (w : World) (h : RowP P w v l.length (cCQ l)) (hm : l.length<=9223372036854775807) (ha : ∀ y ∈ l, IsCon P w y) (hf : ∀ y ∈ l.map pC, frmC y = true/\dCQ y<=900000) :
 Calls Tryz.prog 22 #[v, .func (.func 58) #[] #[]] w fun e w' => e = .returned (.bool (!(l.map pC).all normalC))/\Below w.heap.size w w' := by
 refine (containsC_any 58 #[] (enters_of Tryz.func58 (by kernel_rfl) rfl) P v l (fun j V => ((l.map pC).take j).all normalC = true/\Below w.heap.size w V) (fun j V => (j < l.length->normalC (pC (l.getD j default)) = false)/\Below w.heap.size w V) w ⟨by rw [List.take_zero]; rfl, Below.refl _ _⟩ (fun j V hI => Kept.of_below hI.2) (fun j V hj hI => ?_) h hm ha).mono ?_
 ·have hmem := mem_getD l j hj
  have hf' := hf _ (List.mem_map_of_mem (f := pC) hmem)
  refine (norm1_any P (l.getD j default) (H _ hmem) V (iBQ (ha _ hmem) hI.2) hf'.1 hf'.2).mono fun e V' ⟨he, hb⟩ => ⟨_, he, fun hb1 => ⟨fun _ => by simpa using hb1, hI.2.trans (hb.mono hI.2.size)⟩, fun hb1 => ⟨?_, hI.2.trans (hb.mono hI.2.size)⟩⟩
  have hT : (l.map pC).take (j + 1) = (l.map pC).take j ++ [pC (l.getD j default)] := by
   rw [take_get default _ j (by rw [List.length_map]; exact hj), map_getD pC l j hj]
  have hb2 : normalC (pC (l.getD j default)) = true := by cases hq : normalC (pC (l.getD j default)) with
   | true => rfl
   | false => rw [hq] at hb1; cases hb1
  rw [hT, List.all_append, hI.1, List.all_cons, List.all_nil, hb2]; rfl
 ·rintro e w' ⟨b, rfl, hy, hn⟩
  cases b
  ·obtain ⟨h1, h2⟩ := hn rfl
   rw [take_all] at h1
   exact ⟨by rw [h1]; rfl, h2⟩
  ·obtain ⟨j, hj, h1, h2⟩ := hy rfl
   refine ⟨?_, h2⟩
   have : (l.map pC).all normalC = false := by
    rw [List.all_eq_false]; exact ⟨_, List.mem_map_of_mem (mem_getD l j hj), by rw [h1 hj]; decide⟩
   rw [this]; rfl
theorem isNormal_any : ∀ x : ConD, NormAll x := by
 refine ConD.ind (fun op n s k nv ns lv l ih P w h hf hd => ?_)
 have HEta := eta_any P _ w h hf hd
 have hfz := fSQ (by rw [pMQ] at hf; exact hf)
 have hdl : ∀ y ∈ l.map pC, frmC y = true/\dCQ y<=900000 := fun y hy => ⟨hfz.2.2.2.1 y hy, by
  rw [pMQ, depthC_mk] at hd
  have := depthCL_ge' _ _ hy
  omega⟩
 have hRed : normalC (pC (.mk op n s k nv ns lv l)) = (!((op == 12 && ((l.map pC).getD 0 default).op == 11) || etaC (pC (.mk op n s k nv ns lv l))) && (l.map pC).all normalC) := by
  rw [pMQ, normalC_mk]; rfl
 obtain ⟨ka, kc, kn, hks⟩ := iKQ h.parts.kind
 obtain ⟨na, nc, rfl, _⟩ := rSQ h.parts.names
 obtain ⟨a, c, rfl, _⟩ := rSQ h.parts.row
 rw [cVQ hks]
 have hll : l.length<=9223372036854775807 := by have h1 := h.parts.llen; have : maxLen = 9223372036854775807 := (by decide); omega
 have hnn : ns.length<=9223372036854775807 := by have h1 := h.parts.nlen; have : maxLen = 9223372036854775807 := (by decide); omega
 have hb0 : Below w.heap.size w (w.alloc (.cells #[.int .i64 op, .int .i64 n, .string s, .slice ka kn kc, .slice na ns.length nc, .slice a l.length c] 28)) := (Below.refl _ _).alloc (Nat.le_refl _) _
 have gC := nHQ w (.cells #[.int .i64 op, .int .i64 n, .string s, .slice ka kn kc, .slice na ns.length nc, .slice a l.length c] 28)
 have hsz0 : (w.alloc (.cells #[.int .i64 op, .int .i64 n, .string s, .slice ka kn kc, .slice na ns.length nc, .slice a l.length c] 28)).heap.size = w.heap.size + 1 := by simp
 obtain ⟨c0, c1, c2, c3, c4, c5⟩ := cnQ gC
 have HP := hJQ (iBQ h hb0).parts
 have HC0 := hJQ (iBQ h hb0)
 have hPW := cVQ (op := op) (n := n) (s := s) (nv := .slice na ns.length nc) (lv := .slice a l.length c) (ns := ns) (l := l) hks
 have HEta : Hid (∀ W, Below w.heap.size w W->Calls Tryz.prog 57 #[(.agg #[.int .i64 op, .int .i64 n, .string s, .slice ka kn kc, .slice na ns.length nc, .slice a l.length c])] W fun e w' => e = .returned (.bool (etaC (pC (.mk op n s k (.slice na ns.length nc) ns (.slice a l.length c) l))))/\Below W.heap.size W w') := fun W hW => by
  rw [← hPW]; exact eta_any P _ W (iBQ h hW) hf hd
 have HLs : Hid (∀ W, Below w.heap.size w W->Calls Tryz.prog 22 #[.slice a l.length c, .func (.func 58) #[] #[]] W fun e w' => e = .returned (.bool (!(l.map pC).all normalC))/\Below W.heap.size W w') := fun W hW => normL_any P _ l ih W (rowP_below h.parts.row hW) hll (fun y hy => iBQ (h.parts.all y hy) hW) hdl
 have hHF : ∀ b, normalC (pC (.mk op n s k (.slice na ns.length nc) ns (.slice a l.length c) l)) = b->Ending.returned (.bool b) = Ending.returned (.bool (normalC (pC (.mk op n s k (.slice na ns.length nc) ns (.slice a l.length c) l)))) := fun b hb => by rw [hb]
 have HF := hJQ hHF
 have HRed := hJQ hRed
 have hlt : w.heap.size < (w.alloc (.cells #[.int .i64 op, .int .i64 n, .string s, .slice ka kn kc, .slice na ns.length nc, .slice a l.length c] 28)).heap.size := by omega
 have hcase : (op = 12/\∃ fd gd, l = [fd, gd]) ∨ op ≠ 12 := by
  by_cases h12 : op = 12
  ·subst h12
   rw [pMQ] at hf
   exact .inl ⟨rfl, two_parts hf⟩
  ·exact .inr h12
 have HP2 := HP
 clear hHF hRed hf hd hfz hdl hPW ih HC0
 rcases hcase with ⟨rfl, fd, gd, rfl⟩ | q12
 ·obtain ⟨b, off, rfl, ⟨_, hbl⟩, f0, f1, f2, f3, f4, f5⟩ := part_0 (x := fd) (l := [gd]) HP2.out.row
  have hb0 : Below w.heap.size w (w.alloc (.cells #[.int .i64 12, .int .i64 n, .string s, .slice ka kn kc, .slice na ns.length nc, .slice (some ⟨b, off, none⟩) 2 c] 28)) := hb0
  have gC : (w.alloc (.cells #[.int .i64 12, .int .i64 n, .string s, .slice ka kn kc, .slice na ns.length nc, .slice (some ⟨b, off, none⟩) 2 c] 28)).heap[w.heap.size]? = some (.cells #[.int .i64 12, .int .i64 n, .string s, .slice ka kn kc, .slice na ns.length nc, .slice (some ⟨b, off, none⟩) 2 c] 28 (0, 0)) := gC
  have f0 : (w.alloc (.cells #[.int .i64 12, .int .i64 n, .string s, .slice ka kn kc, .slice na ns.length nc, .slice (some ⟨b, off, none⟩) 2 c] 28)).cell? ⟨b, off, none⟩ = some (.int .i64 fd.op) := f0
  have hlt : w.heap.size < (w.alloc (.cells #[.int .i64 12, .int .i64 n, .string s, .slice ka kn kc, .slice na ns.length nc, .slice (some ⟨b, off, none⟩) 2 c] 28)).heap.size := hlt
  have HEta : Hid (∀ W, Below w.heap.size w W->Calls Tryz.prog 57 #[(.agg #[.int .i64 12, .int .i64 n, .string s, .slice ka kn kc, .slice na ns.length nc, .slice (some ⟨b, off, none⟩) 2 c])] W fun e w' => e = .returned (.bool (etaC (pC (.mk 12 n s k (.slice na ns.length nc) ns (.slice (some ⟨b, off, none⟩) 2 c) [fd, gd]))))/\Below W.heap.size W w') := HEta
  have HLs : Hid (∀ W, Below w.heap.size w W->Calls Tryz.prog 22 #[.slice (some ⟨b, off, none⟩) 2 c, .func (.func 58) #[] #[]] W fun e w' => e = .returned (.bool (!([fd, gd].map pC).all normalC))/\Below W.heap.size W w') := HLs
  clear c0 c1 c2 c3 c4 c5
  obtain ⟨c0, c1, c2, c3, c4, c5⟩ := cnQ gC
  show Calls Tryz.prog 28 #[(.agg #[.int .i64 12, .int .i64 n, .string s, .slice ka kn kc, .slice na ns.length nc, .slice (some ⟨b, off, none⟩) 2 c])] w _
  by_cases q11 : fd.op = 11
  ·have HE := HF.out false (by
    rw [HRed.out]
    have : (((fd :: [gd]).map pC).getD 0 default).op = 11 := by show (pC fd).op = 11; rw [ConD.op_pure]; exact q11
    rw [this]; rfl)
   rw [q11] at f0
   clear HF HRed HEta HLs h hks HP HP2 q11
   go_enter Tryz.func28, Tryz.ntmps28
   go_wp2_with fail
   go_ret
   exact ⟨HE, hb0⟩
  ·have q11' : (fd.op == 11) = false := beq_eq_false_iff_ne.2 q11
   have HR2 : Hid (normalC (pC (.mk 12 n s k (.slice na ns.length nc) ns (.slice (some ⟨b, off, none⟩) [fd, gd].length c) [fd, gd])) = (!etaC (pC (.mk 12 n s k (.slice na ns.length nc) ns (.slice (some ⟨b, off, none⟩) 2 c) [fd, gd])) && ([fd, gd].map pC).all normalC)) := by
    show _ = _
    rw [HRed.out]
    have : ((([fd, gd].map pC).getD 0 default).op == 11) = false := by show ((pC fd).op == 11) = false; rw [ConD.op_pure]; exact q11'
    rw [this]; rfl
   clear HRed h hks HP HP2 q11
   obtain ⟨be, hbe⟩ : ∃ q9, etaC (pC (.mk 12 n s k (.slice na ns.length nc) ns (.slice (some ⟨b, off, none⟩) 2 c) [fd, gd])) = q9 := ⟨_, rfl⟩
   rw [hbe] at HEta HR2
   obtain ⟨bl, hbl⟩ : ∃ q9, ([fd, gd].map pC).all normalC = q9 := ⟨_, rfl⟩
   rw [hbl] at HLs HR2
   clear hbe hbl
   go_enter Tryz.func28, Tryz.ntmps28
   go_wp2_with fail
   refine (HEta.out _ hb0).mono ?_
   rintro e w2 ⟨rfl, hb2⟩
   have hbw2 := hb0.trans (hb2.mono hb0.size)
   have g2 := (hb2.block _ hlt).trans gC
   obtain ⟨d0, d1, d2, d3, d4, d5⟩ := cnQ g2
   clear HEta
   cases be
   ·go_wp2_with fail
    refine (HLs.out _ hbw2).mono ?_
    rintro e w3 ⟨rfl, hb3⟩
    have hbw3 := hbw2.trans (hb3.mono hbw2.size)
    have HE := hJQ (HF.out bl (by rw [HR2.out]; rfl))
    clear HF HR2 HLs
    go_wp2_with fail
    go_ret
    first | exact ⟨HE.out, hbw3⟩ | exact ⟨by rw [← HE.out]; simp, hbw3⟩
   ·have HE := HF.out false (by rw [HR2.out]; rfl)
    clear HF HR2 HLs
    go_wp2_with fail
    go_ret
    exact ⟨HE, hbw2⟩
 ·have q12' : (op == 12) = false := beq_eq_false_iff_ne.2 q12
  have HR2 : Hid (normalC (pC (.mk op n s k (.slice na ns.length nc) ns (.slice a l.length c) l)) = (!etaC (pC (.mk op n s k (.slice na ns.length nc) ns (.slice a l.length c) l)) && (l.map pC).all normalC)) := by
   show _ = _
   rw [HRed.out, q12']; rfl
  clear HRed h hks HP HP2 q12
  obtain ⟨be, hbe⟩ : ∃ q9, etaC (pC (.mk op n s k (.slice na ns.length nc) ns (.slice a l.length c) l)) = q9 := ⟨_, rfl⟩
  rw [hbe] at HEta HR2
  obtain ⟨bl, hbl⟩ : ∃ q9, (l.map pC).all normalC = q9 := ⟨_, rfl⟩
  rw [hbl] at HLs HR2
  clear hbe hbl
  go_enter Tryz.func28, Tryz.ntmps28
  go_wp2_with fail
  refine (HEta.out _ hb0).mono ?_
  rintro e w2 ⟨rfl, hb2⟩
  have hbw2 := hb0.trans (hb2.mono hb0.size)
  have g2 := (hb2.block _ hlt).trans gC
  obtain ⟨d0, d1, d2, d3, d4, d5⟩ := cnQ g2
  clear HEta
  cases be
  ·go_wp2_with fail
   refine (HLs.out _ hbw2).mono ?_
   rintro e w3 ⟨rfl, hb3⟩
   have hbw3 := hbw2.trans (hb3.mono hbw2.size)
   have HE := hJQ (HF.out bl (by rw [HR2.out]; rfl))
   clear HF HR2 HLs
   go_wp2_with fail
   go_ret
   first | exact ⟨HE.out, hbw3⟩ | exact ⟨by rw [← HE.out]; simp, hbw3⟩
  ·have HE := HF.out false (by rw [HR2.out]; rfl)
   clear HF HR2 HLs
   go_wp2_with fail
   go_ret
   exact ⟨HE, hbw2⟩
end Go.Proofs.YtkiffgdinmpljaaGreatDoor
