/- normalize at every depth. Normal forms are normal, and their own normal forms; plain. normal.Head at a normal form. Printed by gen_head0.py, expanded by mac.py. -/
import Derived.Test.YtkiffgdinmpljaaGreatDoorF33
import Derived.Test.YtkiffgdinmpljaaGreatDoorF27
import Derived.Test.YtkiffgdinmpljaaGreatDoorF24
import Derived.Test.YtkiffgdinmpljaaGreatDoorF26
set_option linter.unusedVariables false
set_option linter.unusedSimpArgs false
namespace Go.Proofs.YtkiffgdinmpljaaGreatDoor
open Go Go.RowKit
set_option maxHeartbeats 8000000
set_option maxRecDepth 100000
theorem norm_all (kb : Nat) : ∀ (F : Nat) (x : ConD), NormAll2 kb F x
 | 0, x => by
   intro P w left _ _ _ _ _ _ _ _ hfu _ _
   exfalso
   have : 1<=dCQ (pC x) := by cases x; rw [pMQ, depthC_mk]; omega
   omega
 | F + 1, x => norm_step kb F (fun y => norm_all kb F y) x
def deepF : Nat := 4010401
def tameN (c : Cn) : Option (Cn × Nat) := nrmN deepF c 10000
theorem shift_op (b : Int) (f : Nat) (c : Cn) : (shiftC b f c).op = c.op := by
 obtain ⟨op, n, s, k, ns, l⟩ := c
 rw [shiftC_mk]
 split
 ·rename_i h
  split
  ·exact h.symm
  ·rfl
 ·rfl
theorem any_shift (i : Int) (e : Nat) : ∀ l : List Cn, (∀ x ∈ l, occC i (shiftC (-1) e x) = occC i x)->(l.map (shiftC (-1) e)).any (occC i) = l.any (occC i)
 | [], _ => rfl
 | x :: r, h => by rw [List.map_cons, List.any_cons, List.any_cons, h x (by simp), any_shift i e r (fun y hy => h y (by simp [hy]))]
theorem deep_cast (op : Int) (e : Nat) : (if binderB op = true then (e : Int) + 1 else e) = ((deepC op e : Nat) : Int) := by
 unfold deepC; split <;> rfl
theorem occ_shift : ∀ (c : Cn) (i e : Nat), i < e->frmC c = true->occC e c = false->occC i (shiftC (-1) e c) = occC i c := by
 refine Cn.ind (fun op n s k ns l ih i e hie hf ho => ?_)
 have hfs := fSQ hf
 rw [shiftC_mk]
 rw [occC_mk] at ho
 by_cases hop : op = 1
 ·subst hop
  rw [if_pos rfl] at ho ⊢
  have hne : n ≠ (e : Int) := fun h => by rw [h] at ho; simp at ho
  split
  ·rename_i hen
   unfold varC
   rw [occC_mk, occC_mk, if_pos rfl, if_pos rfl]
   have h1 : (n + -1 == (i : Int)) = false := beq_eq_false_iff_ne.2 (by omega)
   have h2 : (n == (i : Int)) = false := beq_eq_false_iff_ne.2 (by omega)
   rw [h1, h2]
  ·rfl
 ·rw [if_neg hop] at ho ⊢
  rw [occC_mk, occC_mk, if_neg hop, if_neg hop, deep_cast]
  rw [deep_cast, List.any_eq_false] at ho
  refine any_shift _ _ _ (fun x hx => ih x hx _ _ ?_ (hfs.2.2.2.1 x hx) ?_)
  ·unfold deepC; split <;> omega
  ·have := ho x hx; simpa using this
theorem redex_mk (op n : Int) (s : ByteArray) (k : Kd) (ns : List ByteArray) (l : List Cn) : redexC (.mk op n s k ns l) = ((op == 12 && (l.getD 0 default).op == 11) || (op == 11 && (l.getD 0 default).op == 12 && ((l.getD 0 default).l.getD 1 default).op == 1 && ((l.getD 0 default).l.getD 1 default).n == 0 && !occC 0 ((l.getD 0 default).l.getD 0 default))) := rfl
theorem shift_redex (op n : Int) (s : ByteArray) (k : Kd) (ns : List ByteArray) (l : List Cn) (d : Nat) (hop : op ≠ 1) (hf : frmC (.mk op n s k ns l) = true) (ho : occC d (.mk op n s k ns l) = false) : redexC (.mk op n s k ns (l.map (shiftC (-1) (deepC op d)))) = redexC (.mk op n s k ns l) := by
 have hfs := fSQ hf
 rw [redex_mk, redex_mk]
 rw [occC_mk, if_neg hop, deep_cast, List.any_eq_false] at ho
 by_cases h12 : op = 12
 ·subst h12
  obtain ⟨f, a, rfl, _⟩ := form_app cstB labsB hf
  show ((12 : Int) == 12 && (shiftC (-1) _ f).op == 11 || _) = _
  rw [shift_op]; rfl
 ·by_cases h11 : op = 11
  ·subst h11
   obtain ⟨y, rfl, hy⟩ := form_bind cstB labsB (show binderB 11 = true from rfl) hf
   have hoy : occC ((deepC 11 d : Nat) : Int) y = false := by have := ho y (by simp); simpa using this
   obtain ⟨yop, yn, ys, yk, yns, yl⟩ := y
   show (_ || ((11 : Int) == 11 && (shiftC (-1) (deepC 11 d) (.mk yop yn ys yk yns yl)).op == 12 && (((shiftC (-1) (deepC 11 d) (.mk yop yn ys yk yns yl)).l.getD 1 default).op == 1) && (((shiftC (-1) (deepC 11 d) (.mk yop yn ys yk yns yl)).l.getD 1 default).n == 0) && !occC 0 ((shiftC (-1) (deepC 11 d) (.mk yop yn ys yk yns yl)).l.getD 0 default))) = (_ || ((11 : Int) == 11 && yop == 12 && ((yl.getD 1 default).op == 1) && ((yl.getD 1 default).n == 0) && !occC 0 (yl.getD 0 default)))
   rw [shift_op, show (Cn.mk yop yn ys yk yns yl).op = yop from rfl]
   by_cases hy12 : yop = 12
   ·subst hy12
    obtain ⟨f, a, rfl, hff, haa⟩ := form_app cstB labsB hy
    rw [shiftC_mk, if_neg (by decide)]
    rw [occC_mk, if_neg (by decide), deep_cast, List.any_eq_false] at hoy
    have hof : occC ((deepC 11 d : Nat) : Int) f = false := by have := hoy f (by simp); simpa [deepC, binderB] using this
    have hoa : occC ((deepC 11 d : Nat) : Int) a = false := by have := hoy a (by simp); simpa [deepC, binderB] using this
    have e1 : deepC 12 (deepC 11 d) = deepC 11 d := rfl
    have e2 : deepC 11 d = d + 1 := rfl
    show (_ || ((11 : Int) == 11 && (12 : Int) == 12 && ((shiftC (-1) (deepC 12 (deepC 11 d)) a).op == 1) && ((shiftC (-1) (deepC 12 (deepC 11 d)) a).n == 0) && !occC 0 (shiftC (-1) (deepC 12 (deepC 11 d)) f))) = (_ || ((11 : Int) == 11 && (12 : Int) == 12 && (a.op == 1) && (a.n == 0) && !occC 0 f))
    rw [e1, shift_op, e2]
    rw [e2] at hof hoa
    have hocc : occC 0 (shiftC (-1) (d + 1) f) = occC 0 f := occ_shift f 0 (d + 1) (by omega) hff hof
    rw [hocc]
    by_cases ha1 : a.op = 1
    ·obtain ⟨aop, an, a5, ak, ans, al⟩ := a
     have ha1 : aop = 1 := ha1
     subst ha1
     have han := (fSQ haa).2.2.1 (.inl rfl)
     rw [occC_mk, if_pos rfl] at hoa
     have hne : an ≠ ((d + 1 : Nat) : Int) := fun h => by rw [h] at hoa; simp at hoa
     have hn0 : ((shiftC (-1) (d + 1) (.mk 1 an a5 ak ans al)).n == 0) = (an == 0) := by
      rw [shiftC_mk, if_pos rfl]
      split
      ·rename_i hle
       show (an + -1 == 0) = (an == 0)
       rw [beq_eq_false_iff_ne.2 (show an + -1 ≠ 0 by omega), beq_eq_false_iff_ne.2 (show an ≠ 0 by omega)]
      ·rfl
     rw [hn0]
     rfl
    ·have : (a.op == 1) = false := beq_eq_false_iff_ne.2 ha1
     rw [this]
     simp
   ·have : (yop == 12) = false := beq_eq_false_iff_ne.2 hy12
    rw [this]
    simp
  ·have h1 : (op == 12) = false := beq_eq_false_iff_ne.2 h12
   have h2 : (op == 11) = false := beq_eq_false_iff_ne.2 h11
   rw [h1, h2]
   simp
theorem shift_normal : ∀ (c : Cn) (d : Nat), frmC c = true->occC d c = false->normalC c = true->normalC (shiftC (-1) d c) = true := by
 refine Cn.ind (fun op n s k ns l ih d hf ho hn => ?_)
 have hfs := fSQ hf
 rw [normalC_mk, Bool.and_eq_true, List.all_eq_true] at hn
 by_cases hop : op = 1
 ·subst hop
  rw [shiftC_mk, if_pos rfl]
  split
  ·unfold varC; rw [normalC_mk]; rfl
  ·rw [normalC_mk, Bool.and_eq_true, List.all_eq_true]; exact hn
 ·rw [shiftC_mk, if_neg hop, normalC_mk, shift_redex op n s k ns l d hop hf ho, hn.1, Bool.true_and, List.all_eq_true]
  intro x hx
  obtain ⟨y, hy, rfl⟩ := List.mem_map.1 hx
  rw [occC_mk, if_neg hop, deep_cast, List.any_eq_false] at ho
  exact ih y hy _ (hfs.2.2.2.1 y hy) (by have := ho y hy; simpa using this) (hn.2 y hy)
theorem norm_normal : ∀ (F : Nat) (c : Cn) (left : Nat) (y : Cn) (m : Nat), frmC c = true->nrmN F c left = some (y, m)->normalC y = true
 | 0, c, left, y, m, _, h => by cases h
 | F + 1, .mk op n s k ns l, left, y, m, hf, h => by
   have h : normN cstB labsB (F + 1) (.mk op n s k ns l) left = some (y, m) := h
   rw [normN_mk] at h
   split at h
   ·cases h
   ·rename_i l' m1 hl
    have hmid := (mid_form F op n s k ns l left l' m1 hf hl).1
    have hfl := ((formC_iff cstB labsB ..).1 hf).2
    have hl' : ∀ x ∈ l', normalC x = true := normL_mem (Pr := fun c => normalC c = true) (nrmN F) l left l' m1 (fun x hx a b d hn => norm_normal F x a b d (hfl x hx) hn) hl
    unfold hNQ at h
    split at h
    ·cases h
    ·split at h
     ·split at h
      ·cases h
      ·split at h
       ·rename_i hv
        exact norm_normal F _ _ y m (val_iff.1 hv).2.2 h
       ·cases h
     ·split at h
      ·rename_i he
       obtain ⟨rfl, rfl⟩ := Prod.mk.inj (oJQ h)
       obtain ⟨n1, s1, k1, ns1, n2, s2, k2, ns2, f, a, hsh, _, _, ho, hff⟩ := eta_shape cstB labsB hmid he
       rw [hsh]
       show normalC (shiftC (-1) 0 f) = true
       have e9 : l' = [.mk 12 n2 s2 k2 ns2 [f, a]] := congrArg Cn.l hsh
       have h9 := hl' (.mk 12 n2 s2 k2 ns2 [f, a]) (by rw [e9]; simp)
       rw [normalC_mk, Bool.and_eq_true, List.all_eq_true] at h9
       exact shift_normal f 0 hff ho (h9.2 f (by simp))
      ·rename_i h12 he
       obtain ⟨rfl, rfl⟩ := Prod.mk.inj (oJQ h)
       rw [normalC_mk, Bool.and_eq_true, List.all_eq_true]
       refine ⟨?_, hl'⟩
       rw [Bool.not_eq_true']
       show ((op == 12 && (l'.getD 0 default).op == 11) || etaC _) = false
       have h1 : etaC (.mk op n s k ns l') = false := by cases hq : etaC (.mk op n s k ns l') with
        | false => rfl
        | true => exact absurd hq he
       rw [h1, Bool.or_false]
       cases hq : (op == 12 && (l'.getD 0 default).op == 11) with
       | false => rfl
       | true =>
         rw [Bool.and_eq_true, beq_iff_eq, beq_iff_eq] at hq
         exact absurd hq h12
theorem normL_self (f : Cn->Nat->Option (Cn × Nat)) (left : Nat) : ∀ l : List Cn, (∀ x ∈ l, f x left = some (x, left))->normL f l left = some (l, left)
 | [], _ => by rw [normL]
 | x :: r, h => by
   rw [normL, h x (by simp)]
   show (normL f r left).map _ = _
   rw [normL_self f left r (fun y hy => h y (by simp [hy]))]; rfl
theorem norm_self (left : Nat) : ∀ (F : Nat) (c : Cn), dCQ c<=F->sizeC c<=20000->dCQ c<=400->normalC c = true->nrmN F c left = some (c, left)
 | 0, c, h, _, _, _ => by
   exfalso
   have : 1<=dCQ c := by cases c; rw [depthC_mk]; omega
   omega
 | F + 1, .mk op n s k ns l, hF, hs, hd, hn => by
   have hs2 := hs
   have hd2 := hd
   rw [depthC_mk] at hF hd
   rw [sMQ] at hs
   rw [normalC_mk, Bool.and_eq_true, List.all_eq_true, Bool.not_eq_true'] at hn
   show normN cstB labsB (F + 1) _ left = _
   rw [normN_mk]
   have hl : normL (normN cstB labsB F) l left = some (l, left) := normL_self _ left l (fun x hx => norm_self left F x (by have := dGQ l x hx; omega) (by have := sLQ l x hx; omega) (by have := dGQ l x hx; omega) (hn.2 x hx))
   rw [hl]
   show hNQ cstB labsB _ (.mk op n s k ns l) left = _
   have hr : ((op == 12 && (l.getD 0 default).op == 11) || etaC (.mk op n s k ns l)) = false := hn.1
   rw [Bool.or_eq_false_iff] at hr
   unfold hNQ
   rw [if_neg (by rw [smallC_iff.2 ⟨hs2, hd2⟩]; decide), if_neg (fun hh => ?_), if_neg (by rw [hr.2]; decide)]
   have h1 : op = 12 := hh.1
   have h2 : (l.getD 0 default).op = 11 := hh.2
   have h3 := hr.1
   rw [h1, h2] at h3
   cases h3
theorem tame_normal {c y : Cn} {m : Nat} (hv : valC c = true) (h : tameN c = some (y, m)) : normalC y = true/\valC y = true/\tameN y = some (y, 10000) := by
 obtain ⟨h1, h2, h3⟩ := val_iff.1 hv
 have hn := norm_normal deepF c 10000 y m h3 h
 have hsm := smallC_iff.1 (norm_small deepF c 10000 y m h3 h)
 have hfy := (norm_form cstB labsB deepF c 10000 y m h3 h).1
 exact ⟨hn, val_iff.2 ⟨hsm.1, hsm.2, hfy⟩, norm_self 10000 deepF y (by unfold deepF; omega) hsm.1 hsm.2 hn⟩
theorem tame_same {c y : Cn} {m : Nat} (hv : valC c = true) (h : tameN c = some (y, m)) : normalC c = true ↔ c = y := by
 constructor
 ·intro hn
  obtain ⟨h1, h2, h3⟩ := val_iff.1 hv
  have := norm_self 10000 deepF c (by unfold deepF; omega) h1 h2 hn
  rw [show nrmN deepF c 10000 = tameN c from rfl, h] at this
  exact (Prod.mk.inj (oJQ this)).1.symm
 ·intro e
  rw [e]; exact (tame_normal hv h).1
theorem spine_normal : ∀ (k : Nat) (c : Cn) (acc : List Cn), normalC c = true->frmC c = true->(acc ≠ []->c.op ≠ 11)->(spineN k c acc).1.op ≠ 11 ∨ (spineN k c acc).2 = []
 | 0, c, acc, _, _, h => by
   show c.op ≠ 11 ∨ acc = []
   by_cases ha : acc = []
   ·exact .inr ha
   ·exact .inl (h ha)
 | k + 1, .mk op n s kd ns l, acc, hn, hf, h => by
   by_cases hop : op = 12
   ·subst hop
    obtain ⟨f, a, rfl, hff, _⟩ := form_app cstB labsB hf
    rw [spineN_app]
    rw [normalC_mk, redex_mk] at hn
    simp only [Bool.and_eq_true, List.all_cons, Bool.not_eq_true', Bool.or_eq_false_iff] at hn
    refine spine_normal k f (a :: acc) hn.2.1 hff (fun _ he => ?_)
    have h1 := hn.1.1
    rw [show ([f, a].getD 0 default).op = 11 from he] at h1
    exact absurd h1 (by decide)
   ·rw [spineN_stop (k + 1) (.mk op n s kd ns l) acc hop]
    by_cases ha : acc = []
    ·exact .inr ha
    ·exact .inl (h ha)
theorem head_normal (P : Nat->Prop) (x : ConD) (w : World) (hE : EnvN w) (h : IsCon P w x) (hb : bndC (pC x)) (hv : valC (pC x) = true) (hn : normalC (pC x) = true) :
 Calls Tryz.prog 14 #[conV x] w fun e w' => ∃ d, e = .returned (.tuple #[conV d, .int .i64 0])/\IsCon (fun b => w.heap.size<=b) w' d/\pC d = pC x/\Below w.heap.size w w' := by
 obtain ⟨hz, _, hfr⟩ := val_iff.1 hv
 have hsn := spine_normal (sizeC (pC x)) (pC x) [] hn hfr (fun he => absurd rfl he)
 obtain ⟨xop, xn, xs, xk, xns, xl, xka, xkn, xkc, xna, xnc, xa, xcc, rfl, hxk, _⟩ := cSQ h
 have HXV := hJQ (cVQ (op := xop) (n := xn) (s := xs) (nv := .slice xna xns.length xnc) (lv := .slice xa xl.length xcc) (ns := xns) (l := xl) hxk)
 rw [HXV.out]
 have g1 := gAQ (w.alloc (.cells #[.int .i64 xop, .int .i64 xn, .string xs, .slice xka xkn xkc, .slice xna xns.length xnc, .slice xa xl.length xcc] 28)) (.cells #[.int .i64 0, .int .i64 0, .string ⟨#[]⟩, .slice none 0 0, .slice none 0 0, .slice none 0 0] 28)
 have s1 : (w.alloc (.cells #[.int .i64 xop, .int .i64 xn, .string xs, .slice xka xkn xkc, .slice xna xns.length xnc, .slice xa xl.length xcc] 28)).heap.size = w.heap.size + 1 := by simp
 have kB := (g1.block w.heap.size (by omega) (by nofun)).trans (nHQ w (.cells #[.int .i64 xop, .int .i64 xn, .string xs, .slice xka xkn xkc, .slice xna xns.length xnc, .slice xa xl.length xcc] 28))
 have kR : ((w.alloc (.cells #[.int .i64 xop, .int .i64 xn, .string xs, .slice xka xkn xkc, .slice xna xns.length xnc, .slice xa xl.length xcc] 28)).alloc (.cells #[.int .i64 0, .int .i64 0, .string ⟨#[]⟩, .slice none 0 0, .slice none 0 0, .slice none 0 0] 28)).heap[w.heap.size + 1]? = _ := (congrArg _ s1.symm).trans (nHQ (w.alloc (.cells #[.int .i64 xop, .int .i64 xn, .string xs, .slice xka xkn xkc, .slice xna xns.length xnc, .slice xa xl.length xcc] 28)) (.cells #[.int .i64 0, .int .i64 0, .string ⟨#[]⟩, .slice none 0 0, .slice none 0 0, .slice none 0 0] 28))
 have hbW := gUQ (B := w.heap.size) (gBQ (gAQ w (.cells #[.int .i64 xop, .int .i64 xn, .string xs, .slice xka xkn xkc, .slice xna xns.length xnc, .slice xa xl.length xcc] 28)) g1) (Nat.le_refl _) (by nofun)
 have hsW : ((w.alloc (.cells #[.int .i64 xop, .int .i64 xn, .string xs, .slice xka xkn xkc, .slice xna xns.length xnc, .slice xa xl.length xcc] 28)).alloc (.cells #[.int .i64 0, .int .i64 0, .string ⟨#[]⟩, .slice none 0 0, .slice none 0 0, .slice none 0 0] 28)).heap.size = w.heap.size + 2 := by simp
 have HV : Hid (∀ U, Below w.heap.size w U->Calls Tryz.prog 25 #[.agg #[.int .i64 xop, .int .i64 xn, .string xs, .slice xka xkn xkc, .slice xna xns.length xnc, .slice xa xl.length xcc]] U fun e w' => e = .returned (.bool true)/\Below U.heap.size U w') := fun U hU => by
  have := valid_any P (ConD.mk xop xn xs xk (.slice xna xns.length xnc) xns (.slice xa xl.length xcc) xl) U (hE.below hU) (iBQ h hU) hb (by omega)
  rw [HXV.out, hv] at this
  exact this
 have HS : Hid (∀ U, Below w.heap.size w U->Calls Tryz.prog 35 #[.agg #[.int .i64 xop, .int .i64 xn, .string xs, .slice xka xkn xkc, .slice xna xns.length xnc, .slice xa xl.length xcc]] U (SpOk (pC (ConD.mk xop xn xs xk (.slice xna xns.length xnc) xns (.slice xa xl.length xcc) xl)) U)) := fun U hU => by
  have := spine_any P (ConD.mk xop xn xs xk (.slice xna xns.length xnc) xns (.slice xa xl.length xcc) xl) U (hE.below hU) (iBQ h hU) hb hv
  rw [HXV.out] at this
  exact this
 have HC : Hid (∀ U, Below w.heap.size w U->Calls Tryz.prog 27 #[.agg #[.int .i64 xop, .int .i64 xn, .string xs, .slice xka xkn xkc, .slice xna xns.length xnc, .slice xa xl.length xcc]] U fun e w' => ConOut (fun b => U.heap.size<=b) (pC (ConD.mk xop xn xs xk (.slice xna xns.length xnc) xns (.slice xa xl.length xcc) xl)) e w'/\Below U.heap.size U w') := fun U hU => by
  have := copied_any P (ConD.mk xop xn xs xk (.slice xna xns.length xnc) xns (.slice xa xl.length xcc) xl) U (iBQ h hU) hfr (by omega)
  rw [HXV.out] at this
  exact this
 obtain ⟨c0, c1, c2, c3, c4, c5⟩ := cnQ kB
 have HB0 := hJQ kB
 have HR0 := hJQ kR
 have HSN := hJQ hsn
 clear h hb hv hz hE g1 s1 kB kR hxk hn hfr hsn
 generalize pC (ConD.mk xop xn xs xk (.slice xna xns.length xnc) xns (.slice xa xl.length xcc) xl) = T at *
 go_enter Tryz.func14, Tryz.ntmps14
 go_upto_region 1 with fail
 generalize ((w.alloc (.cells #[.int .i64 xop, .int .i64 xn, .string xs, .slice xka xkn xkc, .slice xna xns.length xnc, .slice xa xl.length xcc] 28)).alloc (.cells #[.int .i64 0, .int .i64 0, .string ⟨#[]⟩, .slice none 0 0, .slice none 0 0, .slice none 0 0] 28)) = W at *
 go_wp2_with fail
 refine (HV.out _ hbW).mono ?_
 rintro e w2 ⟨rfl, hb2⟩
 have hbw := hbW.trans (hb2.mono hbW.size)
 have HB2 := hJQ ((hb2.block _ (hLQ HB0.out)).trans HB0.out)
 have HR2 := hJQ ((hb2.block _ (hLQ HR0.out)).trans HR0.out)
 have hs2 : w.heap.size + 2<=w2.heap.size := by have := hb2.size; omega
 have HBW := hJQ hbw
 clear c0 c1 c2 c3 c4 c5 HV hb2 HB0 HR0 hbW hsW hbw
 go_wp2_with fail
 go_loopg [4] 1 (fun _ lv9 wr => lv9 = .int .i64 0/\wr = w2)
 case atStart => exact ⟨rfl, rfl⟩
 case round =>
  obtain ⟨rfl, rfl⟩ := hrel
  obtain ⟨c0, c1, c2, c3, c4, c5⟩ := cnQ HB2.out
  go_wp2_with fail
  refine (HS.out _ HBW.out).mono ?_
  rintro e w3 ⟨dd, oa, oc, ds, rfl, hdd, hpd, hL, hpl, hb3⟩
  obtain ⟨zop, zn, zs, zk, zns, zl, zka, zkn, zkc, zna, znc, za, zcc, rfl, hzk, _⟩ := cSQ hdd
  rw [cVQ (op := zop) (n := zn) (s := zs) (nv := .slice zna zns.length znc) (lv := .slice za zl.length zcc) (ns := zns) (l := zl) hzk]
  have hgZ := gAQ w3 (.cells #[.int .i64 0, .int .i64 0, .string ⟨#[]⟩, .slice none 0 0, .slice none 0 0, .slice none 0 0] 28)
  have kZ := nHQ w3 (.cells #[.int .i64 0, .int .i64 0, .string ⟨#[]⟩, .slice none 0 0, .slice none 0 0, .slice none 0 0] 28)
  have hrow := gRQ (w3.alloc (.cells #[.int .i64 0, .int .i64 0, .string ⟨#[]⟩, .slice none 0 0, .slice none 0 0, .slice none 0 0] 28)) w3.heap.size #[.int .i64 zop, .int .i64 zn, .string zs, .slice zka zkn zkc, .slice zna zns.length znc, .slice za zl.length zcc]
  have kZ2 := setRow_heap (w3.alloc (.cells #[.int .i64 0, .int .i64 0, .string ⟨#[]⟩, .slice none 0 0, .slice none 0 0, .slice none 0 0] 28)) w3.heap.size _ #[.int .i64 zop, .int .i64 zn, .string zs, .slice zka zkn zkc, .slice zna zns.length znc, .slice za zl.length zcc] _ _ kZ
  have hs3 := hb3.size
  have hsZ : (w3.alloc (.cells #[.int .i64 0, .int .i64 0, .string ⟨#[]⟩, .slice none 0 0, .slice none 0 0, .slice none 0 0] 28)).heap.size = w3.heap.size + 1 := by simp
  have hb4 := ((HBW.out.trans (hb3.mono HBW.out.size)).trans (gUQ (B := w.heap.size) hgZ (by omega) (by nofun))).trans (gUQ (B := w.heap.size) hrow (by omega) (fun q hq => by have e2 : w3.heap.size = q := oJQ hq; omega))
  have h4 : ∀ q, q < w.heap.size + 2->((w3.alloc (.cells #[.int .i64 0, .int .i64 0, .string ⟨#[]⟩, .slice none 0 0, .slice none 0 0, .slice none 0 0] 28)).setRow w3.heap.size #[.int .i64 zop, .int .i64 zn, .string zs, .slice zka zkn zkc, .slice zna zns.length znc, .slice za zl.length zcc]).heap[q]? = wr.heap[q]? := fun q hq => ((hrow.block q (by omega) (fun e => by have e2 : q = w3.heap.size := oJQ e; omega)).trans (hgZ.block q (by omega) (by nofun))).trans (hb3.block q (by omega))
  have kB4 := (h4 w.heap.size (by omega)).trans HB2.out
  have kR4 := (h4 (w.heap.size + 1) (by omega)).trans HR2.out
  have HB4 := hJQ kB4
  have HR4 := hJQ kR4
  have HBB := hJQ hb4
  have HZ2 := hJQ kZ2
  have hzop : zop ≠ 11 ∨ ds.length = 0 := by
   rcases HSN.out with h1 | h1
   ·left
    intro he
    exact h1 (by show (spineC T).1.op = 11; rw [← hpd, pMQ]; exact he)
   ·right
    have : (spineC T).2 = [] := h1
    rw [this] at hpl
    simpa using hpl
  have HZO := hJQ hzop
  clear hgZ hrow kZ2 hb4 h4 kB4 kR4 hdd hpd hL hpl hb3 hzop hzk HSN
  go_upto_region 6 with (refine wpList_store_row rfl 28 _ _ rfl w3.heap.size _ rfl rfl 28 _ kZ cIQ rfl (all_one _ rfl) ?_)
  clear kZ c0 c1 c2 c3 c4 c5
  generalize (w3.alloc (.cells #[.int .i64 0, .int .i64 0, .string ⟨#[]⟩, .slice none 0 0, .slice none 0 0, .slice none 0 0] 28)).setRow w3.heap.size #[.int .i64 zop, .int .i64 zn, .string zs, .slice zka zkn zkc, .slice zna zns.length znc, .slice za zl.length zcc] = V at *
  obtain ⟨z0, z1, z2, z3, z4, z5⟩ := cnQ HZ2.out
  obtain ⟨c0, c1, c2, c3, c4, c5⟩ := cnQ HB4.out
  have HEND : Hid (∀ e w5, ConOut (fun b => V.heap.size<=b) T e w5/\Below V.heap.size V w5->∃ yop yn ys yk yns yl yka ykn ykc yna ync ya ycc, e = .returned (.agg #[.int .i64 yop, .int .i64 yn, .string ys, .slice yka ykn ykc, .slice yna yns.length ync, .slice ya yl.length ycc])/\Hid (IsCon (fun b => V.heap.size<=b) w5 (ConD.mk yop yn ys yk (.slice yna yns.length ync) yns (.slice ya yl.length ycc) yl)/\pC (ConD.mk yop yn ys yk (.slice yna yns.length ync) yns (.slice ya yl.length ycc) yl) = T/\conV (ConD.mk yop yn ys yk (.slice yna yns.length ync) yns (.slice ya yl.length ycc) yl) = .agg #[.int .i64 yop, .int .i64 yn, .string ys, .slice yka ykn ykc, .slice yna yns.length ync, .slice ya yl.length ycc])/\Hid (Below V.heap.size V w5)) := by
   rintro e w5 ⟨⟨d5, rfl, hd5, hp5⟩, hb5⟩
   obtain ⟨yop, yn, ys, yk, yns, yl, yka, ykn, ykc, yna, ync, ya, ycc, rfl, hyk, _⟩ := cSQ hd5
   exact ⟨yop, yn, ys, yk, yns, yl, yka, ykn, ykc, yna, ync, ya, ycc, by rw [cVQ (op := yop) (n := yn) (s := ys) (nv := .slice yna yns.length ync) (lv := .slice ya yl.length ycc) (ns := yns) (l := yl) hyk], ⟨hd5, hp5, cVQ (op := yop) (n := yn) (s := ys) (nv := .slice yna yns.length ync) (lv := .slice ya yl.length ycc) (ns := yns) (l := yl) hyk⟩, hb5⟩
  by_cases hf : zop = 11
  ·subst hf
   have hlen : ds.length = 0 := HZO.out.resolve_left (fun h => h rfl)
   rw [hlen]
   go_wp2_with fail
   refine (HC.out _ HBB.out).mono ?_
   intro e w5 he
   obtain ⟨yop, yn, ys, yk, yns, yl, yka, ykn, ykc, yna, ync, ya, ycc, rfl, HY, hb5⟩ := HEND.out e w5 he
   have hs5 := hb5.out.size
   have kR5 := (hb5.out.block _ (hLQ HR4.out)).trans HR4.out
   have hrow := gRQ w5 (w.heap.size + 1) #[.int .i64 yop, .int .i64 yn, .string ys, .slice yka ykn ykc, .slice yna yns.length ync, .slice ya yl.length ycc]
   have HRF := hJQ (setRow_heap w5 (w.heap.size + 1) _ #[.int .i64 yop, .int .i64 yn, .string ys, .slice yka ykn ykc, .slice yna yns.length ync, .slice ya yl.length ycc] _ _ kR5)
   have hsV : w.heap.size + 2<=V.heap.size := by have := hLQ HZ2.out; omega
   have HBF := hJQ ((HBB.out.trans (hb5.out.mono HBB.out.size)).trans (gUQ (B := w.heap.size) hrow (by omega) (fun q hq => by have e2 : w.heap.size + 1 = q := oJQ hq; omega)))
   have HDF := hJQ ((HY.out.1.grown hrow (fun q hq hp => by have e2 : w.heap.size + 1 = q := oJQ hq; have hp : V.heap.size<=q := hp; omega)).mono (Q := fun b => w.heap.size<=b) (fun b hb _ => by have hb : V.heap.size<=b := hb; show w.heap.size<=b; omega))
   clear hrow
   go_wp2_with (refine wpList_store_row rfl 28 _ _ rfl (w.heap.size + 1) _ rfl rfl 28 _ kR5 cIQ rfl (all_one _ rfl) ?_)
   refine bodyPost_ret (v := .tuple #[.agg #[.int .i64 yop, .int .i64 yn, .string ys, .slice yka ykn ykc, .slice yna yns.length ync, .slice ya yl.length ycc], .int .i64 0]) ?_ rfl ⟨_, by rw [HY.out.2.2], HDF.out, HY.out.2.1, HBF.out⟩
   rw [results_cell_tmp (p := 2) (u := 3) (ty := 28) rfl]
   simp [asAddr, run_loadVar_row _ _ _ _ _ _ _ HRF.out Tryz.underlying28 rfl cIQ, Result.andThen]
  ·have hf' : (zop != 11) = true := bne_iff_ne.2 hf
   go_wp2_with fail
   refine (HC.out _ HBB.out).mono ?_
   intro e w5 he
   obtain ⟨yop, yn, ys, yk, yns, yl, yka, ykn, ykc, yna, ync, ya, ycc, rfl, HY, hb5⟩ := HEND.out e w5 he
   have hs5 := hb5.out.size
   have kR5 := (hb5.out.block _ (hLQ HR4.out)).trans HR4.out
   have hrow := gRQ w5 (w.heap.size + 1) #[.int .i64 yop, .int .i64 yn, .string ys, .slice yka ykn ykc, .slice yna yns.length ync, .slice ya yl.length ycc]
   have HRF := hJQ (setRow_heap w5 (w.heap.size + 1) _ #[.int .i64 yop, .int .i64 yn, .string ys, .slice yka ykn ykc, .slice yna yns.length ync, .slice ya yl.length ycc] _ _ kR5)
   have hsV : w.heap.size + 2<=V.heap.size := by have := hLQ HZ2.out; omega
   have HBF := hJQ ((HBB.out.trans (hb5.out.mono HBB.out.size)).trans (gUQ (B := w.heap.size) hrow (by omega) (fun q hq => by have e2 : w.heap.size + 1 = q := oJQ hq; omega)))
   have HDF := hJQ ((HY.out.1.grown hrow (fun q hq hp => by have e2 : w.heap.size + 1 = q := oJQ hq; have hp : V.heap.size<=q := hp; omega)).mono (Q := fun b => w.heap.size<=b) (fun b hb _ => by have hb : V.heap.size<=b := hb; show w.heap.size<=b; omega))
   clear hrow
   go_wp2_with (refine wpList_store_row rfl 28 _ _ rfl (w.heap.size + 1) _ rfl rfl 28 _ kR5 cIQ rfl (all_one _ rfl) ?_)
   refine bodyPost_ret (v := .tuple #[.agg #[.int .i64 yop, .int .i64 yn, .string ys, .slice yka ykn ykc, .slice yna yns.length ync, .slice ya yl.length ycc], .int .i64 0]) ?_ rfl ⟨_, by rw [HY.out.2.2], HDF.out, HY.out.2.1, HBF.out⟩
   rw [results_cell_tmp (p := 2) (u := 3) (ty := 28) rfl]
   simp [asAddr, run_loadVar_row _ _ _ _ _ _ _ HRF.out Tryz.underlying28 rfl cIQ, Result.andThen]
end Go.Proofs.YtkiffgdinmpljaaGreatDoor
