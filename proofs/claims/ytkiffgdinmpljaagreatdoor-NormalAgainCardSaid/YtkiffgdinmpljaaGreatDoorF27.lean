/- Bounds are kept; a shift down keeps a constructor well-formed. Normal forms are small, and within the bounds; lists under way. eta, isNormal. Expanded by mac.py. -/
import Derived.Test.YtkiffgdinmpljaaGreatDoorF19
import Derived.Test.YtkiffgdinmpljaaGreatDoorF18
import Derived.Test.YtkiffgdinmpljaaGreatDoorF23
set_option linter.unusedVariables false
set_option linter.unusedSimpArgs false
namespace Go.Proofs.YtkiffgdinmpljaaGreatDoor
open Go Go.RowKit
set_option maxHeartbeats 8000000
set_option maxRecDepth 100000
theorem bnd_var (n : Int) : bndC (varC n) := by
 unfold varC
 exact (bndC_mk ..).2 ⟨by decide, by decide, (fun x hx => by cases hx), (fun x hx => by cases hx)⟩
theorem bnd_shift (b : Int) : ∀ (c : Cn) (f : Nat), bndC c->bndC (shiftC b f c) := by
 refine Cn.ind (fun op n s k ns l ih f h => ?_)
 obtain ⟨h1, h2, h3, h4⟩ := (bndC_mk ..).1 h
 rw [shiftC_mk]
 split
 ·split
  ·exact bnd_var _
  ·exact h
 ·refine (bndC_mk ..).2 ⟨h1, h2, h3, fun x hx => ?_⟩
  obtain ⟨y, hy, rfl⟩ := List.mem_map.1 hx
  exact ih y hy _ (h4 y hy)
theorem bnd_subst (a : List Cn) (ha : ∀ x ∈ a, bndC x) : ∀ (c : Cn) (d : Nat), bndC c->bndC (sC9 a d c) := by
 refine Cn.ind (fun op n s k ns l ih d h => ?_)
 obtain ⟨h1, h2, h3, h4⟩ := (bndC_mk ..).1 h
 rw [substC_mk]
 split
 ·split
  ·exact h
  ·split
   ·rename_i hn hl
    exact bnd_shift _ _ _ (ha _ (mem_getD a (n - d).toNat (by omega)))
   ·exact bnd_var _
 ·refine (bndC_mk ..).2 ⟨h1, h2, h3, fun x hx => ?_⟩
  obtain ⟨y, hy, rfl⟩ := List.mem_map.1 hx
  exact ih y hy _ (h4 y hy)
theorem depthCL_map (g : Cn->Cn) (l : List Cn) (h : ∀ x ∈ l, dCQ (g x) = dCQ x) : depthCL (l.map g) = depthCL l := by
 induction l with
 | nil => rfl
 | cons x r ih => rw [List.map_cons, depthCL_cons, depthCL_cons, h x (by simp), ih (fun y hy => h y (by simp [hy]))]
theorem shift_depth (b : Int) : ∀ (c : Cn) (f : Nat), frmC c = true->dCQ (shiftC b f c) = dCQ c := by
 refine Cn.ind (fun op n s k ns l ih f h => ?_)
 rw [shiftC_mk]
 by_cases ho : op = 1
 ·rw [if_pos ho]
  obtain ⟨_, rfl⟩ := frm_leaf h (.inl ho)
  split
  ·unfold varC; rw [depthC_mk, depthC_mk]
  ·rfl
 ·rw [if_neg ho, depthC_mk, depthC_mk, depthCL_map _ _ (fun x hx => ih x hx _ ((fSQ h).2.2.2.1 x hx))]
theorem shift_val (c : Cn) (h : valC c = true) (ho : occC 0 c = false) : valC (shiftC (-1) 0 c) = true := by
 obtain ⟨h1, h2, h3⟩ := val_iff.1 h
 exact val_iff.2 ⟨by rw [shift_size _ _ _ h3]; exact h1, by rw [shift_depth _ _ _ h3]; exact h2, shift_form cstB labsB c 0 h3 ho⟩
abbrev nrmN (F : Nat) (c : Cn) (left : Nat) : Option (Cn × Nat) := normN cstB labsB F c left
theorem smallC_iff {c : Cn} : smallC c = true ↔ sizeC c<=20000/\dCQ c<=400 := by
 show (decide _ && decide _) = true ↔ _
 simp only [Bool.and_eq_true, decide_eq_true_eq]
theorem pSQ (x : Cn) (op n : Int) (s : ByteArray) (k : Kd) (ns : List ByteArray) (l : List Cn) (h : x ∈ l) : sizeC x < sizeC (.mk op n s k ns l)/\dCQ x < dCQ (.mk op n s k ns l) := by
 rw [sMQ, depthC_mk]
 have h1 := sLQ l x h
 have h2 := dGQ l x h
 omega
theorem headN_keep {Pr : Cn->Prop} (g : Cn->Nat->Option (Cn × Nat)) (out : Cn) (left : Nat) (y : Cn) (m : Nat) (hf : frmC out = true) (hout : smallC out = true->Pr out) (heta : etaC out = true->smallC out = true->Pr (shiftC (-1) 0 ((out.l.getD 0 default).l.getD 0 default))) (hg : ∀ c a b d, valC c = true->c = sC9 [out.l.getD 1 default] 0 ((out.l.getD 0 default).l.getD 0 default)->out.op = 12->(out.l.getD 0 default).op = 11->smallC out = true->g c a = some (b, d)->Pr b) (h : hNQ cstB labsB g out left = some (y, m)) : Pr y := by
 unfold hNQ at h
 by_cases h1 : smallC out = false
 ·rw [if_pos h1] at h; cases h
 ·rw [if_neg h1] at h
  have hs : smallC out = true := by cases hq : smallC out with
   | true => rfl
   | false => exact absurd hq h1
  by_cases h2 : out.op = 12/\(out.l.getD 0 default).op = 11
  ·rw [if_pos h2] at h
   cases left with
   | zero => cases h
   | succ m' =>
     simp only at h
     split at h
     ·rename_i hv
      exact hg _ _ _ _ hv rfl h2.1 h2.2 hs h
     ·cases h
  ·rw [if_neg h2] at h
   by_cases h3 : etaC out = true
   ·rw [if_pos h3] at h
    obtain ⟨rfl, rfl⟩ := Prod.mk.inj (oJQ h)
    exact heta h3 hs
   ·rw [if_neg h3] at h
    obtain ⟨rfl, rfl⟩ := Prod.mk.inj (oJQ h)
    exact hout hs
theorem normL_snoc (f : Cn->Nat->Option (Cn × Nat)) (x : Cn) : ∀ (l : List Cn) (left : Nat), normL f (l ++ [x]) left = (match normL f l left with | none => none | some (ys, m) => (match f x m with | none => none | some (y, m') => some (ys ++ [y], m')))
 | [], left => by
   simp only [List.nil_append, normL]
   cases f x left with
   | none => rfl
   | some p => rfl
 | z :: r, left => by
   rw [List.cons_append, normL, normL]
   cases f z left with
   | none => rfl
   | some p =>
     obtain ⟨y, m⟩ := p
     simp only
     rw [normL_snoc f x r m]
     cases normL f r m with
     | none => rfl
     | some q =>
       obtain ⟨ys, m1⟩ := q
       simp only [Option.map_some]
       cases f x m1 with
       | none => rfl
       | some q2 => rfl
theorem normL_mem {Pr : Cn->Prop} (f : Cn->Nat->Option (Cn × Nat)) : ∀ (l : List Cn) (left : Nat) (ys : List Cn) (m : Nat), (∀ x ∈ l, ∀ a b d, f x a = some (b, d)->Pr b)->normL f l left = some (ys, m)->∀ y ∈ ys, Pr y
 | [], left, ys, m, _, h => by
   rw [normL] at h
   obtain ⟨rfl, rfl⟩ := Prod.mk.inj (oJQ h)
   intro y hy; cases hy
 | x :: r, left, ys, m, hp, h => by
   rw [normL] at h
   split at h
   ·cases h
   ·rename_i y m1 hx
    cases hr : normL f r m1 with
    | none => rw [hr] at h; cases h
    | some q =>
      rw [hr] at h
      obtain ⟨rfl, rfl⟩ := Prod.mk.inj (oJQ h)
      intro z hz
      rcases List.mem_cons.1 hz with rfl | hz
      ·exact hp x (by simp) _ _ _ hx
      ·exact normL_mem f r m1 q.1 q.2 (fun x hx => hp x (by simp [hx])) hr z hz
theorem mid_form (F : Nat) (op n : Int) (s : ByteArray) (k : Kd) (ns : List ByteArray) (l : List Cn) (left : Nat) (l' : List Cn) (m : Nat) (h : frmC (.mk op n s k ns l) = true) (hl : normL (nrmN F) l left = some (l', m)) : frmC (.mk op n s k ns l') = true/\m<=left := by
 obtain ⟨h1, h2⟩ := (formC_iff cstB labsB ..).1 h
 obtain ⟨a1, a2, a3⟩ := normL_form cstB labsB (fun c left c' m hc hn => norm_form cstB labsB F c left c' m hc hn) l left l' m h2 hl
 exact ⟨(formC_iff cstB labsB ..).2 ⟨by rw [a1]; exact h1, a2⟩, a3⟩
theorem norm_small : ∀ (F : Nat) (c : Cn) (left : Nat) (y : Cn) (m : Nat), frmC c = true->nrmN F c left = some (y, m)->smallC y = true
 | 0, c, left, y, m, _, h => by cases h
 | F + 1, .mk op n s k ns l, left, y, m, hf, h => by
   have h : normN cstB labsB (F + 1) (.mk op n s k ns l) left = some (y, m) := h
   rw [normN_mk] at h
   split at h
   ·cases h
   ·rename_i l' m1 hl
    have hmid := (mid_form F op n s k ns l left l' m1 hf hl).1
    refine headN_keep (Pr := fun c => smallC c = true) (normN cstB labsB F) _ _ y m hmid (fun hs => hs) (fun he hs => ?_) (fun c a b d hv _ _ _ _ hg => norm_small F c a b d (val_iff.1 hv).2.2 hg) h
    obtain ⟨n1, s1, k1, ns1, n2, s2, k2, ns2, f, a, he, _, _, ho, hff⟩ := eta_shape cstB labsB hmid he
    rw [he] at hs ⊢
    have h1 := smallC_iff.1 hs
    have p1 := pSQ (.mk 12 n2 s2 k2 ns2 [f, a]) 11 n1 s1 k1 ns1 [.mk 12 n2 s2 k2 ns2 [f, a]] (by simp)
    have p2 := pSQ f 12 n2 s2 k2 ns2 [f, a] (by simp)
    show smallC (shiftC (-1) 0 f) = true
    refine smallC_iff.2 ⟨?_, ?_⟩
    ·rw [shift_size _ _ _ hff]; omega
    ·rw [shift_depth _ _ _ hff]; omega
theorem bnd_part {op n : Int} {s : ByteArray} {k : Kd} {ns : List ByteArray} {l : List Cn} (h : bndC (.mk op n s k ns l)) {x : Cn} (hx : x ∈ l) : bndC x := ((bndC_mk ..).1 h).2.2.2 x hx
theorem norm_bnd : ∀ (F : Nat) (c : Cn) (left : Nat) (y : Cn) (m : Nat), frmC c = true->bndC c->nrmN F c left = some (y, m)->bndC y
 | 0, c, left, y, m, _, _, h => by cases h
 | F + 1, .mk op n s k ns l, left, y, m, hf, hb, h => by
   have h : normN cstB labsB (F + 1) (.mk op n s k ns l) left = some (y, m) := h
   rw [normN_mk] at h
   split at h
   ·cases h
   ·rename_i l' m1 hl
    have hmid := (mid_form F op n s k ns l left l' m1 hf hl).1
    have hfl := ((formC_iff cstB labsB ..).1 hf).2
    obtain ⟨b1, b2, b3, b4⟩ := (bndC_mk ..).1 hb
    have hbm : bndC (.mk op n s k ns l') := (bndC_mk ..).2 ⟨b1, b2, b3, normL_mem (Pr := bndC) (nrmN F) l left l' m1 (fun x hx a b d hn => norm_bnd F x a b d (hfl x hx) (b4 x hx) hn) hl⟩
    refine headN_keep (Pr := bndC) (normN cstB labsB F) _ _ y m hmid (fun _ => hbm) (fun he hs => ?_) (fun c a b d hv hc ho1 ho2 hs hg => norm_bnd F c a b d (val_iff.1 hv).2.2 ?_ hg) h
    ·obtain ⟨n1, s1, k1, ns1, n2, s2, k2, ns2, f, a, he, _, _, ho, hff⟩ := eta_shape cstB labsB hmid he
     rw [he] at hbm ⊢
     have hq1 : bndC (.mk 12 n2 s2 k2 ns2 [f, a]) := bnd_part hbm (List.mem_singleton.2 rfl)
     have hq2 : bndC f := bnd_part hq1 (List.mem_cons.2 (.inl rfl))
     exact bnd_shift _ _ _ hq2
    ·have ho1 : op = 12 := ho1
     subst ho1
     obtain ⟨f, a, hfa, hff, haa⟩ := form_app cstB labsB hmid
     subst hfa
     have ho2 : f.op = 11 := ho2
     obtain ⟨fop, fn, fs, fk, fns, fl⟩ := f
     have ho2 : fop = 11 := ho2
     subst ho2
     obtain ⟨y1, hy1, _⟩ := form_bind cstB labsB (show binderB 11 = true from rfl) hff
     subst hy1
     rw [hc]
     show bndC (sC9 [a] 0 y1)
     have hq1 : bndC a := bnd_part hbm (List.mem_cons.2 (.inr (List.mem_singleton.2 rfl)))
     have hq2 : bndC (.mk 11 fn fs fk fns [y1]) := bnd_part hbm (List.mem_cons.2 (.inl rfl))
     have hq3 : bndC y1 := bnd_part hq2 (List.mem_singleton.2 rfl)
     exact bnd_subst _ (fun x hx => by rw [List.mem_singleton.1 hx]; exact hq1) _ 0 hq3
theorem frm_parts {op n : Int} {s : ByteArray} {k : Kd} {ns : List ByteArray} {l : List Cn} (h : frmC (.mk op n s k ns l) = true) : l.length<=1000 := by
 obtain ⟨h1, _⟩ := (formC_iff cstB labsB ..).1 h
 obtain ⟨a1, a2, a3, a4, a5⟩ := node_parts h1
 unfold partsC at a1
 split at a1
 ·omega
 ·split at a1
  ·rename_i hlab
   rw [if_pos hlab] at a5
   unfold labsB at a5
   simp only [Bool.and_eq_true, decide_eq_true_eq] at a5
   omega
  ·split at a1
   ·omega
   ·split at a1 <;> omega
theorem eta_any (P : Nat->Prop) (x : ConD) (w : World) (h : IsCon P w x) (hf : frmC (pC x) = true) (hdp : dCQ (pC x)<=900000) :
 Calls Tryz.prog 57 #[conV x] w (EtaOk x w) := by
 obtain ⟨op, n, s, k, nv, ns, lv, l⟩ := x
 by_cases q1 : op = 11
 ·subst q1
  rw [pMQ] at hf hdp
  obtain ⟨y, rfl⟩ := one_part hf rfl
  by_cases q2 : y.op = 12
  ·obtain ⟨yop, yn, ys, yk, ynv, yns, ylv, yl⟩ := y
   have q2 : yop = 12 := q2
   subst q2
   have hfy : frmC (pC (.mk 12 yn ys yk ynv yns ylv yl)) = true := (fSQ hf).2.2.2.1 _ (by simp)
   rw [pMQ] at hfy
   obtain ⟨fd, gd, rfl⟩ := two_parts hfy
   refine eta_app P n s k nv ns lv yn ys yk ynv yns ylv fd gd w h ?_
   rw [depthC_mk, List.map_cons, List.map_nil, depthCL_cons, pMQ, depthC_mk, List.map_cons, depthCL_cons] at hdp
   omega
  ·exact eta_part P n s k nv ns lv y w h q2
 ·exact eta_no P op n s k nv ns lv l w h q1
def NormAll (x : ConD) : Prop := ∀ (P : Nat->Prop) (w : World), IsCon P w x->frmC (pC x) = true->dCQ (pC x)<=900000->Calls Tryz.prog 28 #[conV x] w fun e w' => e = .returned (.bool (normalC (pC x)))/\Below w.heap.size w w'
theorem norm1_any (P : Nat->Prop) (x : ConD) (H : NormAll x) (w : World) (h : IsCon P w x) (hf : frmC (pC x) = true) (hd : dCQ (pC x)<=900000) :
 Calls Tryz.prog 58 (#[conV x] ++ #[]) w fun e w' => e = .returned (.bool (!normalC (pC x)))/\Below w.heap.size w w' := by
 obtain ⟨op, n, s, k, nv, ns, lv, l⟩ := x
 obtain ⟨ka, kc, kn, hks⟩ := iKQ h.parts.kind
 obtain ⟨na, nc, rfl, _⟩ := rSQ h.parts.names
 obtain ⟨a, c, rfl, _⟩ := rSQ h.parts.row
 rw [cVQ hks]
 have hll : l.length<=9223372036854775807 := by have h1 := h.parts.llen; have : maxLen = 9223372036854775807 := (by decide); omega
 have hnn : ns.length<=9223372036854775807 := by have h1 := h.parts.nlen; have : maxLen = 9223372036854775807 := (by decide); omega
 have hb0 : Below w.heap.size w (w.alloc (.cells #[.int .i64 op, .int .i64 n, .string s, .slice ka kn kc, .slice na ns.length nc, .slice a l.length c] 28)) := (Below.refl _ _).alloc (Nat.le_refl _) _
 have gC := nHQ w (.cells #[.int .i64 op, .int .i64 n, .string s, .slice ka kn kc, .slice na ns.length nc, .slice a l.length c] 28)
 have hsz0 : (w.alloc (.cells #[.int .i64 op, .int .i64 n, .string s, .slice ka kn kc, .slice na ns.length nc, .slice a l.length c] 28)).heap.size = w.heap.size + 1 := by simp
 obtain ⟨c0, c1, c2, c3, c4, c5⟩ := cnQ gC
 have HP := hJQ (iBQ h hb0).parts
 have HC0 := hJQ (iBQ h hb0)
 have HC := hJQ (H P _ HC0.out hf hd)
 rw [cVQ hks] at HC
 clear h hks HP HC0 hf hd hsz0 gC H
 generalize pC (.mk op n s k (.slice na ns.length nc) ns (.slice a l.length c) l) = x at *
 go_enter Tryz.func58, Tryz.ntmps58
 go_wp2_with fail
 refine HC.out.mono ?_
 rintro e w2 ⟨rfl, hb2⟩
 have hbz := hb0.trans (hb2.mono hb0.size)
 clear HC
 go_wp2_with fail
 go_ret
 exact ⟨rfl, hbz⟩
theorem normL_any (P : Nat->Prop) (v : Value) (l : List ConD) (H : ∀ y ∈ l, NormAll y) (w : World) (h : RowP P w v l.length (cCQ l)) (hm : l.length<=9223372036854775807) (ha : ∀ y ∈ l, IsCon P w y) (hf : ∀ y ∈ l.map pC, frmC y = true/\dCQ y<=900000) :
 Calls Tryz.prog 22 #[v, .func (.func 58) #[] #[]] w fun e w' => e = .returned (.bool (!(l.map pC).all normalC))/\Below w.heap.size w w' := by
 refine (containsC_any 58 #[] (enters_of Tryz.func58 (by kernel_rfl) rfl) P v l (fun j V => ((l.map pC).take j).all normalC = true/\Below w.heap.size w V) (fun j V => (j < l.length->normalC (pC (l.getD j default)) = false)/\Below w.heap.size w V) w ⟨by rw [List.take_zero]; rfl, Below.refl _ _⟩ (fun j V hI => Kept.of_below hI.2) (fun j V hj hI => ?_) h hm ha).mono ?_
 ·have hmem := mem_getD l j hj
  have hf' := hf _ (List.mem_map_of_mem (f := pC) hmem)
  refine (norm1_any P (l.getD j default) (H _ hmem) V (iBQ (ha _ hmem) hI.2) hf'.1 hf'.2).mono fun e V' ⟨he, hb⟩ => ⟨_, he, fun hb1 => ⟨fun _ => by simpa using hb1, hI.2.trans (hb.mono hI.2.size)⟩, fun hb1 => ⟨?_, hI.2.trans (hb.mono hI.2.size)⟩⟩
  have hT : (l.map pC).take (j + 1) = (l.map pC).take j ++ [pC (l.getD j default)] := by
   rw [take_get default _ j (by rw [List.length_map]; exact hj), map_getD pC l j hj]
  have hb2 : normalC (pC (l.getD j default)) = true := by cases hq : normalC (pC (l.getD j default)) with
   | true => rfl
   | false => rw [hq] at hb1; cases hb1
  rw [hT, List.all_append, hI.1, List.all_cons, List.all_nil, hb2]; rfl
 ·rintro e w' ⟨b, rfl, hy, hn⟩
  cases b
  ·obtain ⟨h1, h2⟩ := hn rfl
   rw [take_all] at h1
   exact ⟨by rw [h1]; rfl, h2⟩
  ·obtain ⟨j, hj, h1, h2⟩ := hy rfl
   refine ⟨?_, h2⟩
   have : (l.map pC).all normalC = false := by
    rw [List.all_eq_false]; exact ⟨_, List.mem_map_of_mem (mem_getD l j hj), by rw [h1 hj]; decide⟩
   rw [this]; rfl
theorem isNormal_any : ∀ x : ConD, NormAll x := by
 refine ConD.ind (fun op n s k nv ns lv l ih P w h hf hd => ?_)
 have HEta := eta_any P _ w h hf hd
 have hfz := fSQ (by rw [pMQ] at hf; exact hf)
 have hdl : ∀ y ∈ l.map pC, frmC y = true/\dCQ y<=900000 := fun y hy => ⟨hfz.2.2.2.1 y hy, by
  rw [pMQ, depthC_mk] at hd
  have := depthCL_ge' _ _ hy
  omega⟩
 have hRed : normalC (pC (.mk op n s k nv ns lv l)) = (!((op == 12 && ((l.map pC).getD 0 default).op == 11) || etaC (pC (.mk op n s k nv ns lv l))) && (l.map pC).all normalC) := by
  rw [pMQ, normalC_mk]; rfl
 obtain ⟨ka, kc, kn, hks⟩ := iKQ h.parts.kind
 obtain ⟨na, nc, rfl, _⟩ := rSQ h.parts.names
 obtain ⟨a, c, rfl, _⟩ := rSQ h.parts.row
 rw [cVQ hks]
 have hll : l.length<=9223372036854775807 := by have h1 := h.parts.llen; have : maxLen = 9223372036854775807 := (by decide); omega
 have hnn : ns.length<=9223372036854775807 := by have h1 := h.parts.nlen; have : maxLen = 9223372036854775807 := (by decide); omega
 have hb0 : Below w.heap.size w (w.alloc (.cells #[.int .i64 op, .int .i64 n, .string s, .slice ka kn kc, .slice na ns.length nc, .slice a l.length c] 28)) := (Below.refl _ _).alloc (Nat.le_refl _) _
 have gC := nHQ w (.cells #[.int .i64 op, .int .i64 n, .string s, .slice ka kn kc, .slice na ns.length nc, .slice a l.length c] 28)
 have hsz0 : (w.alloc (.cells #[.int .i64 op, .int .i64 n, .string s, .slice ka kn kc, .slice na ns.length nc, .slice a l.length c] 28)).heap.size = w.heap.size + 1 := by simp
 obtain ⟨c0, c1, c2, c3, c4, c5⟩ := cnQ gC
 have HP := hJQ (iBQ h hb0).parts
 have HC0 := hJQ (iBQ h hb0)
 have hPW := cVQ (op := op) (n := n) (s := s) (nv := .slice na ns.length nc) (lv := .slice a l.length c) (ns := ns) (l := l) hks
 have HEta : Hid (∀ W, Below w.heap.size w W->Calls Tryz.prog 57 #[(.agg #[.int .i64 op, .int .i64 n, .string s, .slice ka kn kc, .slice na ns.length nc, .slice a l.length c])] W fun e w' => e = .returned (.bool (etaC (pC (.mk op n s k (.slice na ns.length nc) ns (.slice a l.length c) l))))/\Below W.heap.size W w') := fun W hW => by
  rw [← hPW]; exact eta_any P _ W (iBQ h hW) hf hd
 have HLs : Hid (∀ W, Below w.heap.size w W->Calls Tryz.prog 22 #[.slice a l.length c, .func (.func 58) #[] #[]] W fun e w' => e = .returned (.bool (!(l.map pC).all normalC))/\Below W.heap.size W w') := fun W hW => normL_any P _ l ih W (rowP_below h.parts.row hW) hll (fun y hy => iBQ (h.parts.all y hy) hW) hdl
 have hHF : ∀ b, normalC (pC (.mk op n s k (.slice na ns.length nc) ns (.slice a l.length c) l)) = b->Ending.returned (.bool b) = Ending.returned (.bool (normalC (pC (.mk op n s k (.slice na ns.length nc) ns (.slice a l.length c) l)))) := fun b hb => by rw [hb]
 have HF := hJQ hHF
 have HRed := hJQ hRed
 have hlt : w.heap.size < (w.alloc (.cells #[.int .i64 op, .int .i64 n, .string s, .slice ka kn kc, .slice na ns.length nc, .slice a l.length c] 28)).heap.size := by omega
 have hcase : (op = 12/\∃ fd gd, l = [fd, gd]) ∨ op ≠ 12 := by
  by_cases h12 : op = 12
  ·subst h12
   rw [pMQ] at hf
   exact .inl ⟨rfl, two_parts hf⟩
  ·exact .inr h12
 have HP2 := HP
 clear hHF hRed hf hd hfz hdl hPW ih HC0
 rcases hcase with ⟨rfl, fd, gd, rfl⟩ | q12
 ·obtain ⟨b, off, rfl, ⟨_, hbl⟩, f0, f1, f2, f3, f4, f5⟩ := part_0 (x := fd) (l := [gd]) HP2.out.row
  have hb0 : Below w.heap.size w (w.alloc (.cells #[.int .i64 12, .int .i64 n, .string s, .slice ka kn kc, .slice na ns.length nc, .slice (some ⟨b, off, none⟩) 2 c] 28)) := hb0
  have gC : (w.alloc (.cells #[.int .i64 12, .int .i64 n, .string s, .slice ka kn kc, .slice na ns.length nc, .slice (some ⟨b, off, none⟩) 2 c] 28)).heap[w.heap.size]? = some (.cells #[.int .i64 12, .int .i64 n, .string s, .slice ka kn kc, .slice na ns.length nc, .slice (some ⟨b, off, none⟩) 2 c] 28 (0, 0)) := gC
  have f0 : (w.alloc (.cells #[.int .i64 12, .int .i64 n, .string s, .slice ka kn kc, .slice na ns.length nc, .slice (some ⟨b, off, none⟩) 2 c] 28)).cell? ⟨b, off, none⟩ = some (.int .i64 fd.op) := f0
  have hlt : w.heap.size < (w.alloc (.cells #[.int .i64 12, .int .i64 n, .string s, .slice ka kn kc, .slice na ns.length nc, .slice (some ⟨b, off, none⟩) 2 c] 28)).heap.size := hlt
  have HEta : Hid (∀ W, Below w.heap.size w W->Calls Tryz.prog 57 #[(.agg #[.int .i64 12, .int .i64 n, .string s, .slice ka kn kc, .slice na ns.length nc, .slice (some ⟨b, off, none⟩) 2 c])] W fun e w' => e = .returned (.bool (etaC (pC (.mk 12 n s k (.slice na ns.length nc) ns (.slice (some ⟨b, off, none⟩) 2 c) [fd, gd]))))/\Below W.heap.size W w') := HEta
  have HLs : Hid (∀ W, Below w.heap.size w W->Calls Tryz.prog 22 #[.slice (some ⟨b, off, none⟩) 2 c, .func (.func 58) #[] #[]] W fun e w' => e = .returned (.bool (!([fd, gd].map pC).all normalC))/\Below W.heap.size W w') := HLs
  clear c0 c1 c2 c3 c4 c5
  obtain ⟨c0, c1, c2, c3, c4, c5⟩ := cnQ gC
  show Calls Tryz.prog 28 #[(.agg #[.int .i64 12, .int .i64 n, .string s, .slice ka kn kc, .slice na ns.length nc, .slice (some ⟨b, off, none⟩) 2 c])] w _
  by_cases q11 : fd.op = 11
  ·have HE := HF.out false (by
    rw [HRed.out]
    have : (((fd :: [gd]).map pC).getD 0 default).op = 11 := by show (pC fd).op = 11; rw [ConD.op_pure]; exact q11
    rw [this]; rfl)
   rw [q11] at f0
   clear HF HRed HEta HLs h hks HP HP2 q11
   go_enter Tryz.func28, Tryz.ntmps28
   go_wp2_with fail
   go_ret
   exact ⟨HE, hb0⟩
  ·have q11' : (fd.op == 11) = false := beq_eq_false_iff_ne.2 q11
   have HR2 : Hid (normalC (pC (.mk 12 n s k (.slice na ns.length nc) ns (.slice (some ⟨b, off, none⟩) [fd, gd].length c) [fd, gd])) = (!etaC (pC (.mk 12 n s k (.slice na ns.length nc) ns (.slice (some ⟨b, off, none⟩) 2 c) [fd, gd])) && ([fd, gd].map pC).all normalC)) := by
    show _ = _
    rw [HRed.out]
    have : ((([fd, gd].map pC).getD 0 default).op == 11) = false := by show ((pC fd).op == 11) = false; rw [ConD.op_pure]; exact q11'
    rw [this]; rfl
   clear HRed h hks HP HP2 q11
   obtain ⟨be, hbe⟩ : ∃ q9, etaC (pC (.mk 12 n s k (.slice na ns.length nc) ns (.slice (some ⟨b, off, none⟩) 2 c) [fd, gd])) = q9 := ⟨_, rfl⟩
   rw [hbe] at HEta HR2
   obtain ⟨bl, hbl⟩ : ∃ q9, ([fd, gd].map pC).all normalC = q9 := ⟨_, rfl⟩
   rw [hbl] at HLs HR2
   clear hbe hbl
   go_enter Tryz.func28, Tryz.ntmps28
   go_wp2_with fail
   refine (HEta.out _ hb0).mono ?_
   rintro e w2 ⟨rfl, hb2⟩
   have hbw2 := hb0.trans (hb2.mono hb0.size)
   have g2 := (hb2.block _ hlt).trans gC
   obtain ⟨d0, d1, d2, d3, d4, d5⟩ := cnQ g2
   clear HEta
   cases be
   ·go_wp2_with fail
    refine (HLs.out _ hbw2).mono ?_
    rintro e w3 ⟨rfl, hb3⟩
    have hbw3 := hbw2.trans (hb3.mono hbw2.size)
    have HE := hJQ (HF.out bl (by rw [HR2.out]; rfl))
    clear HF HR2 HLs
    go_wp2_with fail
    go_ret
    first | exact ⟨HE.out, hbw3⟩ | exact ⟨by rw [← HE.out]; simp, hbw3⟩
   ·have HE := HF.out false (by rw [HR2.out]; rfl)
    clear HF HR2 HLs
    go_wp2_with fail
    go_ret
    exact ⟨HE, hbw2⟩
 ·have q12' : (op == 12) = false := beq_eq_false_iff_ne.2 q12
  have HR2 : Hid (normalC (pC (.mk op n s k (.slice na ns.length nc) ns (.slice a l.length c) l)) = (!etaC (pC (.mk op n s k (.slice na ns.length nc) ns (.slice a l.length c) l)) && (l.map pC).all normalC)) := by
   show _ = _
   rw [HRed.out, q12']; rfl
  clear HRed h hks HP HP2 q12
  obtain ⟨be, hbe⟩ : ∃ q9, etaC (pC (.mk op n s k (.slice na ns.length nc) ns (.slice a l.length c) l)) = q9 := ⟨_, rfl⟩
  rw [hbe] at HEta HR2
  obtain ⟨bl, hbl⟩ : ∃ q9, (l.map pC).all normalC = q9 := ⟨_, rfl⟩
  rw [hbl] at HLs HR2
  clear hbe hbl
  go_enter Tryz.func28, Tryz.ntmps28
  go_wp2_with fail
  refine (HEta.out _ hb0).mono ?_
  rintro e w2 ⟨rfl, hb2⟩
  have hbw2 := hb0.trans (hb2.mono hb0.size)
  have g2 := (hb2.block _ hlt).trans gC
  obtain ⟨d0, d1, d2, d3, d4, d5⟩ := cnQ g2
  clear HEta
  cases be
  ·go_wp2_with fail
   refine (HLs.out _ hbw2).mono ?_
   rintro e w3 ⟨rfl, hb3⟩
   have hbw3 := hbw2.trans (hb3.mono hbw2.size)
   have HE := hJQ (HF.out bl (by rw [HR2.out]; rfl))
   clear HF HR2 HLs
   go_wp2_with fail
   go_ret
   first | exact ⟨HE.out, hbw3⟩ | exact ⟨by rw [← HE.out]; simp, hbw3⟩
  ·have HE := HF.out false (by rw [HR2.out]; rfl)
   clear HF HR2 HLs
   go_wp2_with fail
   go_ret
   exact ⟨HE, hbw2⟩
end Go.Proofs.YtkiffgdinmpljaaGreatDoor
