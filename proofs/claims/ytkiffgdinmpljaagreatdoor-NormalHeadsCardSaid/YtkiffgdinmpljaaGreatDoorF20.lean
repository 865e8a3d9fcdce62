/- Normal forms are small, and within the bounds; lists under way. (*counter).normalize. Printed by gen_norm.py, expanded by mac.py. -/
import Derived.Test.YtkiffgdinmpljaaGreatDoorF16
import Derived.Test.YtkiffgdinmpljaaGreatDoorF12
import Derived.Test.YtkiffgdinmpljaaGreatDoorF19
set_option linter.unusedVariables false
set_option linter.unusedSimpArgs false
namespace Go.Proofs.YtkiffgdinmpljaaGreatDoor
open Go Go.RowKit
set_option maxHeartbeats 8000000
set_option maxRecDepth 100000
abbrev nrmN (F : Nat) (c : Cn) (left : Nat) : Option (Cn × Nat) := normN cstB labsB F c left
theorem smallC_iff {c : Cn} : smallC c = true ↔ sizeC c<=20000/\dCQ c<=400 := by
 show (decide _ && decide _) = true ↔ _
 simp only [Bool.and_eq_true, decide_eq_true_eq]
theorem pSQ (x : Cn) (op n : Int) (s : ByteArray) (k : Kd) (ns : List ByteArray) (l : List Cn) (h : x ∈ l) : sizeC x < sizeC (.mk op n s k ns l)/\dCQ x < dCQ (.mk op n s k ns l) := by
 rw [sMQ, depthC_mk]
 have h1 := sLQ l x h
 have h2 := dGQ l x h
 omega
theorem headN_keep {Pr : Cn->Prop} (g : Cn->Nat->Option (Cn × Nat)) (out : Cn) (left : Nat) (y : Cn) (m : Nat) (hf : frmC out = true) (hout : smallC out = true->Pr out) (heta : etaC out = true->smallC out = true->Pr (shiftC (-1) 0 ((out.l.getD 0 default).l.getD 0 default))) (hg : ∀ c a b d, valC c = true->c = sC9 [out.l.getD 1 default] 0 ((out.l.getD 0 default).l.getD 0 default)->out.op = 12->(out.l.getD 0 default).op = 11->smallC out = true->g c a = some (b, d)->Pr b) (h : hNQ cstB labsB g out left = some (y, m)) : Pr y := by
 unfold hNQ at h
 by_cases h1 : smallC out = false
 ·rw [if_pos h1] at h; cases h
 ·rw [if_neg h1] at h
  have hs : smallC out = true := by cases hq : smallC out with
   | true => rfl
   | false => exact absurd hq h1
  by_cases h2 : out.op = 12/\(out.l.getD 0 default).op = 11
  ·rw [if_pos h2] at h
   cases left with
   | zero => cases h
   | succ m' =>
     simp only at h
     split at h
     ·rename_i hv
      exact hg _ _ _ _ hv rfl h2.1 h2.2 hs h
     ·cases h
  ·rw [if_neg h2] at h
   by_cases h3 : etaC out = true
   ·rw [if_pos h3] at h
    obtain ⟨rfl, rfl⟩ := Prod.mk.inj (oJQ h)
    exact heta h3 hs
   ·rw [if_neg h3] at h
    obtain ⟨rfl, rfl⟩ := Prod.mk.inj (oJQ h)
    exact hout hs
theorem normL_snoc (f : Cn->Nat->Option (Cn × Nat)) (x : Cn) : ∀ (l : List Cn) (left : Nat), normL f (l ++ [x]) left = (match normL f l left with | none => none | some (ys, m) => (match f x m with | none => none | some (y, m') => some (ys ++ [y], m')))
 | [], left => by
   simp only [List.nil_append, normL]
   cases f x left with
   | none => rfl
   | some p => rfl
 | z :: r, left => by
   rw [List.cons_append, normL, normL]
   cases f z left with
   | none => rfl
   | some p =>
     obtain ⟨y, m⟩ := p
     simp only
     rw [normL_snoc f x r m]
     cases normL f r m with
     | none => rfl
     | some q =>
       obtain ⟨ys, m1⟩ := q
       simp only [Option.map_some]
       cases f x m1 with
       | none => rfl
       | some q2 => rfl
theorem normL_mem {Pr : Cn->Prop} (f : Cn->Nat->Option (Cn × Nat)) : ∀ (l : List Cn) (left : Nat) (ys : List Cn) (m : Nat), (∀ x ∈ l, ∀ a b d, f x a = some (b, d)->Pr b)->normL f l left = some (ys, m)->∀ y ∈ ys, Pr y
 | [], left, ys, m, _, h => by
   rw [normL] at h
   obtain ⟨rfl, rfl⟩ := Prod.mk.inj (oJQ h)
   intro y hy; cases hy
 | x :: r, left, ys, m, hp, h => by
   rw [normL] at h
   split at h
   ·cases h
   ·rename_i y m1 hx
    cases hr : normL f r m1 with
    | none => rw [hr] at h; cases h
    | some q =>
      rw [hr] at h
      obtain ⟨rfl, rfl⟩ := Prod.mk.inj (oJQ h)
      intro z hz
      rcases List.mem_cons.1 hz with rfl | hz
      ·exact hp x (by simp) _ _ _ hx
      ·exact normL_mem f r m1 q.1 q.2 (fun x hx => hp x (by simp [hx])) hr z hz
theorem mid_form (F : Nat) (op n : Int) (s : ByteArray) (k : Kd) (ns : List ByteArray) (l : List Cn) (left : Nat) (l' : List Cn) (m : Nat) (h : frmC (.mk op n s k ns l) = true) (hl : normL (nrmN F) l left = some (l', m)) : frmC (.mk op n s k ns l') = true/\m<=left := by
 obtain ⟨h1, h2⟩ := (formC_iff cstB labsB ..).1 h
 obtain ⟨a1, a2, a3⟩ := normL_form cstB labsB (fun c left c' m hc hn => norm_form cstB labsB F c left c' m hc hn) l left l' m h2 hl
 exact ⟨(formC_iff cstB labsB ..).2 ⟨by rw [a1]; exact h1, a2⟩, a3⟩
theorem norm_small : ∀ (F : Nat) (c : Cn) (left : Nat) (y : Cn) (m : Nat), frmC c = true->nrmN F c left = some (y, m)->smallC y = true
 | 0, c, left, y, m, _, h => by cases h
 | F + 1, .mk op n s k ns l, left, y, m, hf, h => by
   have h : normN cstB labsB (F + 1) (.mk op n s k ns l) left = some (y, m) := h
   rw [normN_mk] at h
   split at h
   ·cases h
   ·rename_i l' m1 hl
    have hmid := (mid_form F op n s k ns l left l' m1 hf hl).1
    refine headN_keep (Pr := fun c => smallC c = true) (normN cstB labsB F) _ _ y m hmid (fun hs => hs) (fun he hs => ?_) (fun c a b d hv _ _ _ _ hg => norm_small F c a b d (val_iff.1 hv).2.2 hg) h
    obtain ⟨n1, s1, k1, ns1, n2, s2, k2, ns2, f, a, he, _, _, ho, hff⟩ := eta_shape cstB labsB hmid he
    rw [he] at hs ⊢
    have h1 := smallC_iff.1 hs
    have p1 := pSQ (.mk 12 n2 s2 k2 ns2 [f, a]) 11 n1 s1 k1 ns1 [.mk 12 n2 s2 k2 ns2 [f, a]] (by simp)
    have p2 := pSQ f 12 n2 s2 k2 ns2 [f, a] (by simp)
    show smallC (shiftC (-1) 0 f) = true
    refine smallC_iff.2 ⟨?_, ?_⟩
    ·rw [shift_size _ _ _ hff]; omega
    ·rw [shift_depth _ _ _ hff]; omega
theorem bnd_part {op n : Int} {s : ByteArray} {k : Kd} {ns : List ByteArray} {l : List Cn} (h : bndC (.mk op n s k ns l)) {x : Cn} (hx : x ∈ l) : bndC x := ((bndC_mk ..).1 h).2.2.2 x hx
theorem norm_bnd : ∀ (F : Nat) (c : Cn) (left : Nat) (y : Cn) (m : Nat), frmC c = true->bndC c->nrmN F c left = some (y, m)->bndC y
 | 0, c, left, y, m, _, _, h => by cases h
 | F + 1, .mk op n s k ns l, left, y, m, hf, hb, h => by
   have h : normN cstB labsB (F + 1) (.mk op n s k ns l) left = some (y, m) := h
   rw [normN_mk] at h
   split at h
   ·cases h
   ·rename_i l' m1 hl
    have hmid := (mid_form F op n s k ns l left l' m1 hf hl).1
    have hfl := ((formC_iff cstB labsB ..).1 hf).2
    obtain ⟨b1, b2, b3, b4⟩ := (bndC_mk ..).1 hb
    have hbm : bndC (.mk op n s k ns l') := (bndC_mk ..).2 ⟨b1, b2, b3, normL_mem (Pr := bndC) (nrmN F) l left l' m1 (fun x hx a b d hn => norm_bnd F x a b d (hfl x hx) (b4 x hx) hn) hl⟩
    refine headN_keep (Pr := bndC) (normN cstB labsB F) _ _ y m hmid (fun _ => hbm) (fun he hs => ?_) (fun c a b d hv hc ho1 ho2 hs hg => norm_bnd F c a b d (val_iff.1 hv).2.2 ?_ hg) h
    ·obtain ⟨n1, s1, k1, ns1, n2, s2, k2, ns2, f, a, he, _, _, ho, hff⟩ := eta_shape cstB labsB hmid he
     rw [he] at hbm ⊢
     have hq1 : bndC (.mk 12 n2 s2 k2 ns2 [f, a]) := bnd_part hbm (List.mem_singleton.2 rfl)
     have hq2 : bndC f := bnd_part hq1 (List.mem_cons.2 (.inl rfl))
     exact bnd_shift _ _ _ hq2
    ·have ho1 : op = 12 := ho1
     subst ho1
     obtain ⟨f, a, hfa, hff, haa⟩ := form_app cstB labsB hmid
     subst hfa
     have ho2 : f.op = 11 := ho2
     obtain ⟨fop, fn, fs, fk, fns, fl⟩ := f
     have ho2 : fop = 11 := ho2
     subst ho2
     obtain ⟨y1, hy1, _⟩ := form_bind cstB labsB (show binderB 11 = true from rfl) hff
     subst hy1
     rw [hc]
     show bndC (sC9 [a] 0 y1)
     have hq1 : bndC a := bnd_part hbm (List.mem_cons.2 (.inr (List.mem_singleton.2 rfl)))
     have hq2 : bndC (.mk 11 fn fs fk fns [y1]) := bnd_part hbm (List.mem_cons.2 (.inl rfl))
     have hq3 : bndC y1 := bnd_part hq2 (List.mem_singleton.2 rfl)
     exact bnd_subst _ (fun x hx => by rw [List.mem_singleton.1 hx]; exact hq1) _ 0 hq3
theorem frm_parts {op n : Int} {s : ByteArray} {k : Kd} {ns : List ByteArray} {l : List Cn} (h : frmC (.mk op n s k ns l) = true) : l.length<=1000 := by
 obtain ⟨h1, _⟩ := (formC_iff cstB labsB ..).1 h
 obtain ⟨a1, a2, a3, a4, a5⟩ := node_parts h1
 unfold partsC at a1
 split at a1
 ·omega
 ·split at a1
  ·rename_i hlab
   rw [if_pos hlab] at a5
   unfold labsB at a5
   simp only [Bool.and_eq_true, decide_eq_true_eq] at a5
   omega
  ·split at a1
   ·omega
   ·split at a1 <;> omega
def NOk (P : Nat->Prop) (kb : Nat) (res : Option (Cn × Nat)) (w : World) (e : Ending) (w' : World) : Prop :=
 ∃ (d : ConD) (ov : Bool) (st : Int), e = .returned (conV d)/\CtAt w' kb st ov/\w.grownBy w' (some kb)/\IsCon P w' d/\sizeC (pC d)<=20000/\(res = none->ov = true)/\(∀ y m, res = some (y, m)->ov = false/\pC d = y/\st = 10000 - (m : Int))
theorem zero_size : sizeC (pC zeroD)<=20000 := by unfold zeroD; rw [pMQ, sMQ, List.map_nil, sizeCL_nil]; decide
theorem norm_over (P Q : Nat->Prop) (x : ConD) (kb : Nat) (st : Int) (w : World) (h : IsCon P w x) (hC : CtAt w kb st true) :
 Calls Tryz.prog 54 #[.pointer (some ⟨kb, 0, none⟩), conV x] w fun e w' => e = .returned (conV zeroD)/\CtAt w' kb st true/\w.grownBy w' (some kb) := by
 obtain ⟨op, n, s, k, nv, ns, lv, l⟩ := x
 obtain ⟨ka, kc, kn, na, nc, a, c, rfl, _, rfl, _, hks, hcv, hll, hnn, hb0, gC, hsz0, HP, HC0, c0, c1, c2, c3, c4, c5⟩ := open_box h
 rw [hcv]
 clear hcv
 obtain ⟨hg1, kR, kB, hszW⟩ := fo_box gC
 have hgW := gBQ (gAQ w (.cells #[.int .i64 op, .int .i64 n, .string s, .slice ka kn kc, .slice na ns.length nc, .slice a l.length c] 28)) hg1
 have kC := hC.grown hgW (by nofun)
 have hlk := hLQ hC
 have HZ : Hid (conV zeroD = .agg #[.int .i64 0, .int .i64 0, .string ⟨#[]⟩, .slice none 0 0, .slice none 0 0, .slice none 0 0]) := rfl
 have HGW := hJQ (fNQ hgW (some kb))
 clear c0 c1 c2 c3 c4 c5 h hb0 gC HP HC0 hsz0 hg1 hC hks hgW kB
 go_enter Tryz.func54, Tryz.ntmps54
 go_upto_region 1 with fail
 generalize (w.alloc (.cells #[.int .i64 op, .int .i64 n, .string s, .slice ka kn kc, .slice na ns.length nc, .slice a l.length c] 28)).alloc (.cells #[.int .i64 0, .int .i64 0, .string ⟨#[]⟩, .slice none 0 0, .slice none 0 0, .slice none 0 0] 28) = W at *
 obtain ⟨k0, k1, f0, f1⟩ := kC.cells
 have hrw := gRQ W (w.heap.size + 1) #[.int .i64 0, .int .i64 0, .string ⟨#[]⟩, .slice none 0 0, .slice none 0 0, .slice none 0 0]
 have HRF := hJQ (setRow_heap W (w.heap.size + 1) _ #[.int .i64 0, .int .i64 0, .string ⟨#[]⟩, .slice none 0 0, .slice none 0 0, .slice none 0 0] _ _ kR)
 have HGF := hJQ (gOQ HGW.out hrw (by omega))
 have HCF := hJQ ((kC).grown hrw (by intro e; have e2 : (w.heap.size + 1) = kb := oJQ e; omega))
 clear hrw
 go_wp2_with (refine wpList_store_row rfl 28 _ _ rfl (w.heap.size + 1) _ rfl rfl 28 _ kR cIQ rfl (all_one _ rfl) ?_)
 refine bodyPost_ret (results_cell_row rfl _ _ (w.heap.size + 1) 28 #[.int .i64 0, .int .i64 0, .string ⟨#[]⟩, .slice none 0 0, .slice none 0 0, .slice none 0 0] (0, 0) _ rfl HRF.out Tryz.underlying28 rfl cIQ) rfl ?_
 exact ⟨by rw [HZ.out], HCF.out, HGF.out⟩
def NormAll2 (kb F : Nat) (x : ConD) : Prop := ∀ (P : Nat->Prop) (w : World) (left : Nat), EnvK w kb->IsCon P w x->¬ P kb->(∀ b, w.heap.size<=b->P b)->frmC (pC x) = true->bndC (pC x)->CtAt w kb (10000 - (left : Int)) false->left<=10000->left * 401 + dCQ (pC x)<=F->dCQ (pC x)<=400->sizeC (pC x)<=20000 →
 Calls Tryz.prog 54 #[.pointer (some ⟨kb, 0, none⟩), conV x] w (NOk P kb (nrmN F (pC x) left) w)
end Go.Proofs.YtkiffgdinmpljaaGreatDoor
