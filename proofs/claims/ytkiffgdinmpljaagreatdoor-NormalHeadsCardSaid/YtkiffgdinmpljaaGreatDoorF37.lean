/- The reference's step. Printed by gen_rstep.py, expanded by mac.py. -/
import Derived.Test.YtkiffgdinmpljaaGreatDoorF32
import Derived.Test.YtkiffgdinmpljaaGreatDoorF16
import Derived.Test.YtkiffgdinmpljaaGreatDoorF30
set_option linter.unusedVariables false
set_option linter.unusedSimpArgs false
namespace Go.Proofs.YtkiffgdinmpljaaGreatDoor
open Go Go.RowKit
set_option maxHeartbeats 8000000
set_option maxRecDepth 100000
def RStepOk (P : Nat->Prop) (S : Option Cn) (w : World) (e : Ending) (w' : World) : Prop :=
 ∃ (d : ConD) (b : Bool), e = .returned (.tuple #[conV d, .bool b])/\IsCon P w' d/\Below w.heap.size w w'/\(S = none->b = false)/\(∀ t, S = some t->b = true/\(valC t = true->pC d = t)/\(valC t = false->valC (pC d) = false)/\bndC (pC d))
theorem rstep_mk {P : Nat->Prop} {S : Option Cn} {w w' : World} {d : ConD} {b : Bool} {v : Value} (hv : v = conV d) (hd : IsCon P w' d) (hb : Below w.heap.size w w') (h1 : S = none->b = false) (h2 : ∀ t, S = some t->b = true/\(valC t = true->pC d = t)/\(valC t = false->valC (pC d) = false)/\bndC (pC d)) : RStepOk P S w (.returned (.tuple #[v, .bool b])) w' := by
 subst hv
 exact ⟨d, b, rfl, hd, hb, h1, h2⟩
def badD : ConD := .mk (-1) 0 ⟨#[]⟩ (.mk (.slice none 0 0) []) (.slice none 0 0) [] (.slice none 0 0) []
theorem badD_con (P : Nat->Prop) (w : World) : IsCon P w badD := .mk (kind_nil P w) (RowP.nil P w) (Nat.zero_le _) (RowP.nil P w) (Nat.zero_le _) (fun y hy => by cases hy)
theorem badD_pure : pC badD = .mk (-1) 0 ⟨#[]⟩ (.mk []) [] [] := by unfold badD; rw [pMQ, pureK_mk]; rfl
theorem badD_val : valC (pC badD) = false := by rw [badD_pure]; decide +kernel
theorem badD_bnd : bndC (pC badD) := by rw [badD_pure]; exact bnd_node _ _ _ _ _ (by decide) (fun x hx => by cases hx)
theorem app_inval {t d a : Cn} (h1 : valC t = true->d = t) (h2 : valC t = false->valC d = false) (h : valC (appC t a) = false) : valC (appC d a) = false := by
 cases hd : valC (appC d a)
 ·rfl
 ·exfalso
  have k := app_val hd
  cases ht : valC t
  ·rw [h2 ht] at k; cases k
  ·rw [h1 ht] at hd; rw [hd] at h; cases h
def RStepAll (x : ConD) : Prop := ∀ (P : Nat->Prop) (w : World), (∀ b, w.heap.size<=b->P b)->IsCon P w x->valC (pC x) = true->bndC (pC x)->Calls Tryz.prog 37 #[conV x] w (RStepOk P (stepC (pC x)) w)
theorem rstep_one (x : ConD) (ih : ∀ y ∈ x.l, RStepAll y) : RStepAll x := by
 intro P w hP h hv hb
 obtain ⟨xop, xn, xs, xk, xns, xl, xka, xkn, xkc, xna, xnc, xa, xcc, rfl, hxk, _⟩ := cSQ h
 have HI := hJQ ih
 have HXV := hJQ (cVQ (op := xop) (n := xn) (s := xs) (nv := .slice xna xns.length xnc) (lv := .slice xa xl.length xcc) (ns := xns) (l := xl) hxk)
 rw [HXV.out]
 obtain ⟨g1, kR, kB, hbW, hsW⟩ := two_box (nHQ w (.cells #[.int .i64 xop, .int .i64 xn, .string xs, .slice xka xkn xkc, .slice xna xns.length xnc, .slice xa xl.length xcc] 28))
 have HSW := hJQ hsW
 clear hsW
 obtain ⟨c0, c1, c2, c3, c4, c5⟩ := cnQ kB
 have HB0 := hJQ kB
 have HPP := hJQ hP
 clear g1 kB hxk ih
 by_cases hop : xop = 12
 ·subst hop
  obtain ⟨b, off, fop, fn, fs, fk, fns, fl, fka, fkn, fkc, fna, fnc, fa, fcc, rop, rn, rs, rk, rns, rl, rka, rkn, rkc, rna, rnc, ra, rcc, rfl, rfl, ⟨hPb, hbl⟩, hF, hG, hfk, hrk, hfc, hgc⟩ := open_12 h (val_iff.1 hv).2.2
  have hm : pC (.mk 12 xn xs xk (.slice xna xns.length xnc) xns (.slice (some ⟨b, off, none⟩) [(ConD.mk fop fn fs fk (.slice fna fns.length fnc) fns (.slice fa fl.length fcc) fl), (ConD.mk rop rn rs rk (.slice rna rns.length rnc) rns (.slice ra rl.length rcc) rl)].length xcc) [(ConD.mk fop fn fs fk (.slice fna fns.length fnc) fns (.slice fa fl.length fcc) fl), (ConD.mk rop rn rs rk (.slice rna rns.length rnc) rns (.slice ra rl.length rcc) rl)]) = .mk 12 xn xs (pK xk) xns [pC (ConD.mk fop fn fs fk (.slice fna fns.length fnc) fns (.slice fa fl.length fcc) fl), pC (ConD.mk rop rn rs rk (.slice rna rns.length rnc) rns (.slice ra rl.length rcc) rl)] := pMQ ..
  rw [hm] at hv hb ⊢
  have hst := step_app (val_iff.1 hv).2.2
  have hvF := (val_part hv (x := pC (ConD.mk fop fn fs fk (.slice fna fns.length fnc) fns (.slice fa fl.length fcc) fl)) (by simp)).1
  have hvG := (val_part hv (x := pC (ConD.mk rop rn rs rk (.slice rna rns.length rnc) rns (.slice ra rl.length rcc) rl)) (by simp)).1
  have hbF := bnd_part hb (x := pC (ConD.mk fop fn fs fk (.slice fna fns.length fnc) fns (.slice fa fl.length fcc) fl)) (by simp)
  have hbG := bnd_part hb (x := pC (ConD.mk rop rn rs rk (.slice rna rns.length rnc) rns (.slice ra rl.length rcc) rl)) (by simp)
  rw [hst]
  by_cases hf : fop = 11
  ·subst hf
   obtain ⟨q, rfl⟩ : ∃ q, fl = [q] := one_part (k := pK fk) (by have := (val_iff.1 hvF).2.2; rw [pMQ] at this; exact this) rfl
   have hqr := part_0 (x := q) (l := []) hF.parts.row
   have hqc := hF.parts.all q (by simp)
   obtain ⟨qop, qn, qs, qk, qns, ql, qka, qkn, qkc, qna, qnc, qa, qcc, rfl, hqk, _⟩ := cSQ hqc
   obtain ⟨b2, of2, rfl, ⟨hPb2, hbl2⟩, q0, q1, q2, q3, q4, q5⟩ := hqr
   rw [show (ConD.mk qop qn qs qk (.slice qna qns.length qnc) qns (.slice qa ql.length qcc) ql).k.v = _ from hqk] at q3
   have hmf : pC (ConD.mk 11 fn fs fk (.slice fna fns.length fnc) fns (.slice (some ⟨b2, of2, none⟩) [(ConD.mk qop qn qs qk (.slice qna qns.length qnc) qns (.slice qa ql.length qcc) ql)].length fcc) [(ConD.mk qop qn qs qk (.slice qna qns.length qnc) qns (.slice qa ql.length qcc) ql)]) = .mk 11 fn fs (pK fk) fns [pC (ConD.mk qop qn qs qk (.slice qna qns.length qnc) qns (.slice qa ql.length qcc) ql)] := pMQ ..
   rw [if_pos (show (pC (ConD.mk 11 fn fs fk (.slice fna fns.length fnc) fns (.slice (some ⟨b2, of2, none⟩) [(ConD.mk qop qn qs qk (.slice qna qns.length qnc) qns (.slice qa ql.length qcc) ql)].length fcc) [(ConD.mk qop qn qs qk (.slice qna qns.length qnc) qns (.slice qa ql.length qcc) ql)])).op = 11 by rw [hmf]; rfl), show (pC (ConD.mk 11 fn fs fk (.slice fna fns.length fnc) fns (.slice (some ⟨b2, of2, none⟩) [(ConD.mk qop qn qs qk (.slice qna qns.length qnc) qns (.slice qa ql.length qcc) ql)].length fcc) [(ConD.mk qop qn qs qk (.slice qna qns.length qnc) qns (.slice qa ql.length qcc) ql)])).l.getD 0 default = pC (ConD.mk qop qn qs qk (.slice qna qns.length qnc) qns (.slice qa ql.length qcc) ql) by rw [hmf]; rfl]
   rw [hmf] at hvF hbF
   have hvq := (val_part hvF (x := pC (ConD.mk qop qn qs qk (.slice qna qns.length qnc) qns (.slice qa ql.length qcc) ql)) (by simp)).1
   have hbq := bnd_part hbF (x := pC (ConD.mk qop qn qs qk (.slice qna qns.length qnc) qns (.slice qa ql.length qcc) ql)) (by simp)
   have hbT := bnd_subst [pC (ConD.mk rop rn rs rk (.slice rna rns.length rnc) rns (.slice ra rl.length rcc) rl)] (fun x hx => by rw [List.mem_singleton.1 hx]; exact hbG) (pC (ConD.mk qop qn qs qk (.slice qna qns.length qnc) qns (.slice qa ql.length qcc) ql)) 0 hbq
   obtain ⟨hzq, hdq, hfq⟩ := val_iff.1 hvq
   obtain ⟨hzr, hdr, hfr⟩ := val_iff.1 hvG
   have HQV := hJQ (cVQ (op := qop) (n := qn) (s := qs) (nv := .slice qna qns.length qnc) (lv := .slice qa ql.length qcc) (ns := qns) (l := ql) hqk)
   have HRC : Hid (cEQ (ConD.mk rop rn rs rk (.slice rna rns.length rnc) rns (.slice ra rl.length rcc) rl) = [.int .i64 rop, .int .i64 rn, .string rs, .slice rka rkn rkc, .slice rna rns.length rnc, .slice ra rl.length rcc]) := by show [_, _, _, rk.v, _, _] = _; rw [hrk]; rfl
   have HQP := hJQ (hqc.lt.mono (Q := (fun b => P b/\b ≠ w.heap.size + 1)) (fun b hb _ => ⟨hb.1, by have := hb.2; omega⟩))
   have HGP := hJQ (hG.lt.mono (Q := (fun b => P b/\b ≠ w.heap.size + 1)) (fun b hb _ => ⟨hb.1, by have := hb.2; omega⟩))
   obtain ⟨T, hT⟩ : ∃ T, sC9 [pC (ConD.mk rop rn rs rk (.slice rna rns.length rnc) rns (.slice ra rl.length rcc) rl)] 0 (pC (ConD.mk qop qn qs qk (.slice qna qns.length qnc) qns (.slice qa ql.length qcc) ql)) = T := ⟨_, rfl⟩
   have HRow : Hid (∀ (g : Nat) U, w.heap.size + 2<=g->U.heap[g]? = some (.cells #[.int .i64 rop, .int .i64 rn, .string rs, .slice rka rkn rkc, .slice rna rns.length rnc, .slice ra rl.length rcc] 28 (0, 0))->RowP (fun b => P b/\b ≠ w.heap.size + 1) U (.slice (some ⟨g, 0, none⟩) 1 1) 1 (cEQ (ConD.mk rop rn rs rk (.slice rna rns.length rnc) rns (.slice ra rl.length rcc) rl))) := fun g U hg hk => rHQ hk ⟨hP g (by omega), by omega⟩ _ (by rw [HRC.out]) 1 1 (nLQ _)
   have HGr : Hid (∀ (g : Nat) U, Below w.heap.size w U->w.heap.size + 2<=g->U.heap[g]? = some (.cells #[.int .i64 rop, .int .i64 rn, .string rs, .slice rka rkn rkc, .slice rna rns.length rnc, .slice ra rl.length rcc] 28 (0, 0))->Calls Tryz.prog 39 #[.agg #[.int .i64 qop, .int .i64 qn, .string qs, .slice qka qkn qkc, .slice qna qns.length qnc, .slice qa ql.length qcc], .slice (some ⟨g, 0, none⟩) 1 1] U fun e w' => e = .returned (.int .i64 (sizeC T : Nat))/\Below U.heap.size U w') := fun g U hU hg hk => by
    have := rGrown_any (fun b => P b/\b ≠ w.heap.size + 1) (ConD.mk qop qn qs qk (.slice qna qns.length qnc) qns (.slice qa ql.length qcc) ql) (ConD.mk rop rn rs rk (.slice rna rns.length rnc) rns (.slice ra rl.length rcc) rl) (some ⟨g, 0, none⟩) 1 U (iBQ HQP.out hU) hfq hzq (by omega) (HRow.out g U hg hk) (iBQ HGP.out hU) hfr hzr
    rw [HQV.out, hT] at this
    exact this
   have HSu : Hid (∀ (g : Nat) U, Below w.heap.size w U->w.heap.size + 2<=g->w.heap.size + 2<=U.heap.size->U.heap[g]? = some (.cells #[.int .i64 rop, .int .i64 rn, .string rs, .slice rka rkn rkc, .slice rna rns.length rnc, .slice ra rl.length rcc] 28 (0, 0))->Calls Tryz.prog 40 #[.agg #[.int .i64 qop, .int .i64 qn, .string qs, .slice qka qkn qkc, .slice qna qns.length qnc, .slice qa ql.length qcc], .slice (some ⟨g, 0, none⟩) 1 1] U fun e w' => ConOut (fun b => P b/\b ≠ w.heap.size + 1) T e w'/\Below U.heap.size U w') := fun g U hU hg hU2 hk => by
    have := rSubst_any (fun b => P b/\b ≠ w.heap.size + 1) (ConD.mk qop qn qs qk (.slice qna qns.length qnc) qns (.slice qa ql.length qcc) ql) (ConD.mk rop rn rs rk (.slice rna rns.length rnc) rns (.slice ra rl.length rcc) rl) (some ⟨g, 0, none⟩) 1 U (fun b hb => ⟨hP b (by omega), by omega⟩) (iBQ HQP.out hU) hfq (by omega) (by omega) (HRow.out g U hg hk) (iBQ HGP.out hU) hfr (by omega) (by omega)
    rw [HQV.out, hT] at this
    exact this
   rw [hT] at hbT ⊢
   have HBT := hJQ hbT
   obtain ⟨NT, hNT⟩ : ∃ n, sizeC T = n := ⟨_, rfl⟩
   rw [hNT] at HGr
   have HNT := hJQ hNT
   have HR0 := hJQ kR
   have HSS : Hid (∀ U, ((w.alloc (.cells #[.int .i64 12, .int .i64 xn, .string xs, .slice xka xkn xkc, .slice xna xns.length xnc, .slice (some ⟨b, off, none⟩) [(ConD.mk 11 fn fs fk (.slice fna fns.length fnc) fns (.slice (some ⟨b2, of2, none⟩) [(ConD.mk qop qn qs qk (.slice qna qns.length qnc) qns (.slice qa ql.length qcc) ql)].length fcc) [(ConD.mk qop qn qs qk (.slice qna qns.length qnc) qns (.slice qa ql.length qcc) ql)]), (ConD.mk rop rn rs rk (.slice rna rns.length rnc) rns (.slice ra rl.length rcc) rl)].length xcc] 28)).alloc (.cells #[.int .i64 0, .int .i64 0, .string ⟨#[]⟩, .slice none 0 0, .slice none 0 0, .slice none 0 0] 28)).grownBy U (some (w.heap.size + 1))->(fun w9 => w9.cell? ⟨w.heap.size, 5, none⟩ = some (.slice (some ⟨b, off, none⟩) 2 xcc)/\w9.cell? ⟨b, off, none⟩ = some (.int .i64 11)/\w9.cell? ⟨b, off + 5, none⟩ = some (.slice (some ⟨b2, of2, none⟩) 1 fcc)/\w9.cell? ⟨b, off + 6, none⟩ = some (.int .i64 rop)/\w9.cell? ⟨b, off + 6 + 1, none⟩ = some (.int .i64 rn)/\w9.cell? ⟨b, off + 6 + 2, none⟩ = some (.string rs)/\w9.cell? ⟨b, off + 6 + 3, none⟩ = some (.slice rka rkn rkc)/\w9.cell? ⟨b, off + 6 + 4, none⟩ = some (.slice rna rns.length rnc)/\w9.cell? ⟨b, off + 6 + 5, none⟩ = some (.slice ra rl.length rcc)/\w9.cell? ⟨b2, of2, none⟩ = some (.int .i64 qop)/\w9.cell? ⟨b2, of2 + 1, none⟩ = some (.int .i64 qn)/\w9.cell? ⟨b2, of2 + 2, none⟩ = some (.string qs)/\w9.cell? ⟨b2, of2 + 3, none⟩ = some (.slice qka qkn qkc)/\w9.cell? ⟨b2, of2 + 4, none⟩ = some (.slice qna qns.length qnc)/\w9.cell? ⟨b2, of2 + 5, none⟩ = some (.slice qa ql.length qcc)) U) := fun U hU => by
    have hr : ∀ (c o : Nat) (v : Value), c < w.heap.size->w.cell? ⟨c, o, none⟩ = some v->U.cell? ⟨c, o, none⟩ = some v := fun c o v hc hv => (World.cell?_of_block (a := ⟨c, o, none⟩) ((hU.block c (by have := HSW.out; omega) (fun e => by have e2 : c = w.heap.size + 1 := oJQ e; omega)).trans (hbW.block c hc))).trans hv
    obtain ⟨g0, g1, g2, g3, g4, g5⟩ := hgc
    exact ⟨(cnQ ((hU.block _ (by have := HSW.out; omega) (fun e => by have e2 : w.heap.size = w.heap.size + 1 := oJQ e; omega)).trans HB0.out)).2.2.2.2.2, hr _ _ _ hbl hfc.1, hr _ _ _ hbl hfc.2.2.2.2.2, hr _ _ _ hbl g0, hr _ _ _ hbl g1, hr _ _ _ hbl g2, hr _ _ _ hbl g3, hr _ _ _ hbl g4, hr _ _ _ hbl g5, hr _ _ _ hbl2 q0, hr _ _ _ hbl2 q1, hr _ _ _ hbl2 q2, hr _ _ _ hbl2 q3, hr _ _ _ hbl2 q4, hr _ _ _ hbl2 q5⟩
   have hop1 : ((12 : Int) != 12) = false := rfl
   clear h hv hb HI hst hvF hvG hbF hbG hm hfk hrk hgc hfc hF hG hP HXV hqc q0 q1 q2 q3 q4 q5 hqk hmf hvq hbq hbT hzq hdq hfq hzr hdr hfr HQV HRC HQP HGP hT hNT kR HRow HB0
   go_enter Tryz.func37, Tryz.ntmps37
   go_upto_region 3 with fail
   generalize ((w.alloc (.cells #[.int .i64 12, .int .i64 xn, .string xs, .slice xka xkn xkc, .slice xna xns.length xnc, .slice (some ⟨b, off, none⟩) [(ConD.mk 11 fn fs fk (.slice fna fns.length fnc) fns (.slice (some ⟨b2, of2, none⟩) [(ConD.mk qop qn qs qk (.slice qna qns.length qnc) qns (.slice qa ql.length qcc) ql)].length fcc) [(ConD.mk qop qn qs qk (.slice qna qns.length qnc) qns (.slice qa ql.length qcc) ql)]), (ConD.mk rop rn rs rk (.slice rna rns.length rnc) rns (.slice ra rl.length rcc) rl)].length xcc] 28)).alloc (.cells #[.int .i64 0, .int .i64 0, .string ⟨#[]⟩, .slice none 0 0, .slice none 0 0, .slice none 0 0] 28)) = W at *
   clear c0 c1 c2 c3 c4 c5
   have hgD : W.grownBy W.drew none := gDQ W
   have hgA := gBQ (gAQ W (.cells #[.int .i64 rop, .int .i64 rn, .string rs, .slice rka rkn rkc, .slice rna rns.length rnc, .slice ra rl.length rcc] 28)) (gDQ (W.alloc (.cells #[.int .i64 rop, .int .i64 rn, .string rs, .slice rka rkn rkc, .slice rna rns.length rnc, .slice ra rl.length rcc] 28)))
   have hbA := hbW.trans (gUQ (B := w.heap.size) hgA hbW.size (by nofun))
   have kRow : ((W.alloc (.cells #[.int .i64 rop, .int .i64 rn, .string rs, .slice rka rkn rkc, .slice rna rns.length rnc, .slice ra rl.length rcc] 28)).drew).heap[W.heap.size]? = some (.cells #[.int .i64 rop, .int .i64 rn, .string rs, .slice rka rkn rkc, .slice rna rns.length rnc, .slice ra rl.length rcc] 28 (0, 0)) := nHQ W (.cells #[.int .i64 rop, .int .i64 rn, .string rs, .slice rka rkn rkc, .slice rna rns.length rnc, .slice ra rl.length rcc] 28)
   refine wp_region_held_drew (S := (fun w9 => w9.cell? ⟨w.heap.size, 5, none⟩ = some (.slice (some ⟨b, off, none⟩) 2 xcc)/\w9.cell? ⟨b, off, none⟩ = some (.int .i64 11)/\w9.cell? ⟨b, off + 5, none⟩ = some (.slice (some ⟨b2, of2, none⟩) 1 fcc)/\w9.cell? ⟨b, off + 6, none⟩ = some (.int .i64 rop)/\w9.cell? ⟨b, off + 6 + 1, none⟩ = some (.int .i64 rn)/\w9.cell? ⟨b, off + 6 + 2, none⟩ = some (.string rs)/\w9.cell? ⟨b, off + 6 + 3, none⟩ = some (.slice rka rkn rkc)/\w9.cell? ⟨b, off + 6 + 4, none⟩ = some (.slice rna rns.length rnc)/\w9.cell? ⟨b, off + 6 + 5, none⟩ = some (.slice ra rl.length rcc)/\w9.cell? ⟨b2, of2, none⟩ = some (.int .i64 qop)/\w9.cell? ⟨b2, of2 + 1, none⟩ = some (.int .i64 qn)/\w9.cell? ⟨b2, of2 + 2, none⟩ = some (.string qs)/\w9.cell? ⟨b2, of2 + 3, none⟩ = some (.slice qka qkn qkc)/\w9.cell? ⟨b2, of2 + 4, none⟩ = some (.slice qna qns.length qnc)/\w9.cell? ⟨b2, of2 + 5, none⟩ = some (.slice qa ql.length qcc))) (by kernel_rfl) (HSS.out _ (fNQ hgD _)) (fun hHeld => ?_)
   refine tks (b := ?_) (by kernel_rfl) (fun _ _ _ _ _ h => h) (HSS.out _ (fNQ hgD _)) 18 [0, 1, 2, 3, 4, 5, 6, 7, 8, 9, 10, 11, 12, 13, 14, 15, 16, 17] (by kernel_rfl) ?_ ?_
   rotate_left
   ·iterate 18 (refine yc (v := ?_) rfl rfl (by rfl) (fun w9 hSw => ?_) ?_; rotate_left; (focus go_simp; try rfl); simp only [Act.put, l1Q, l2Q, l3Q])
    exact rfl
   refine rd1 18 (by kernel_rfl) (by rfl) (fun K hK => ?_)
   go_simp
   refine hK.out _ _ (HSS.out _ (fNQ hgA _)) (fun _ => ?_)
   clear hK K
   refine rd1 19 (by kernel_rfl) (by rfl) (fun K hK => ?_)
   go_simp
   go_at_call 39
   refine (HGr.out W.heap.size _ hbA (by have := HSW.out; omega) kRow).mono ?_
   rintro e w3 ⟨rfl, hb3⟩
   have hg3 := gBQ hgA (gLQ hb3)
   have S3 := HSS.out _ (fNQ hg3 _)
   refine hK.out _ _ S3 (fun _ => ?_)
   clear hK K
   refine tks (b := ?_) (by kernel_rfl) (fun _ _ _ _ _ h => h) S3 2 [20, 21] (by kernel_rfl) ?_ ?_
   rotate_left
   ·iterate 2 (refine yc (v := ?_) rfl rfl (by rfl) (fun w9 hSw => ?_) ?_; rotate_left; (focus go_simp; try rfl); simp only [Act.put, l1Q, l2Q, l3Q])
    exact rfl
   refine wpAnyH_done (by kernel_rfl) ?_ _
   have hbw3 := hbA.trans (hb3.mono hbA.size)
   have kR3 := (hg3.block _ (hLQ HR0.out) (by nofun)).trans HR0.out
   clear hHeld HGr hgD hgA hbA kRow hb3
   by_cases hN : 20000 < NT
   ·have hN' : ((20000 : Int) < (NT : Int)) = True := eq_true (by omega)
    clear S3
    obtain ⟨HRF, HBF⟩ := put_res hbw3 kR3 #[.int .i64 (-1), .int .i64 0, .string ⟨#[]⟩, .slice none 0 0, .slice none 0 0, .slice none 0 0]
    go_wp2_with (refine wpList_store_row rfl 28 _ _ rfl (w.heap.size + 1) _ rfl rfl 28 _ kR3 cIQ rfl (all_one _ rfl) ?_)
    refine bodyPost_ret (res2 rfl rfl rfl HRF.out) rfl (rstep_mk (d := badD) rfl (badD_con _ _) HBF.out (fun hn => by cases hn) (fun t' ht' => ?_))
    obtain rfl := oJQ ht'
    have hvf : valC T = false := val_size (by rw [HNT.out]; omega)
    exact ⟨rfl, (fun hv => by rw [hvf] at hv; cases hv), fun _ => badD_val, badD_bnd⟩
   ·have hN' : ((20000 : Int) < (NT : Int)) = False := eq_false (by omega)
    obtain ⟨s5, s0, s11, r0, r1, r2, r3, r4, r5, q0, q1, q2, q3, q4, q5⟩ := S3
    go_upto_region 6 with fail
    clear s5 s0 s11 r0 r1 r2 r3 r4 r5 q0 q1 q2 q3 q4 q5
    have hgD := gBQ hg3 (gDQ w3)
    have hgA := gBQ hg3 (gBQ (gAQ w3 (.cells #[.int .i64 rop, .int .i64 rn, .string rs, .slice rka rkn rkc, .slice rna rns.length rnc, .slice ra rl.length rcc] 28)) (gDQ (w3.alloc (.cells #[.int .i64 rop, .int .i64 rn, .string rs, .slice rka rkn rkc, .slice rna rns.length rnc, .slice ra rl.length rcc] 28))))
    have hs3 := hg3.size
    have hbA : Below w.heap.size w ((w3.alloc (.cells #[.int .i64 rop, .int .i64 rn, .string rs, .slice rka rkn rkc, .slice rna rns.length rnc, .slice ra rl.length rcc] 28)).drew) := hbw3.trans (gUQ (B := w.heap.size) (gBQ (gAQ w3 (.cells #[.int .i64 rop, .int .i64 rn, .string rs, .slice rka rkn rkc, .slice rna rns.length rnc, .slice ra rl.length rcc] 28)) (gDQ (w3.alloc (.cells #[.int .i64 rop, .int .i64 rn, .string rs, .slice rka rkn rkc, .slice rna rns.length rnc, .slice ra rl.length rcc] 28)))) hbw3.size (by nofun))
    have kRow : ((w3.alloc (.cells #[.int .i64 rop, .int .i64 rn, .string rs, .slice rka rkn rkc, .slice rna rns.length rnc, .slice ra rl.length rcc] 28)).drew).heap[w3.heap.size]? = some (.cells #[.int .i64 rop, .int .i64 rn, .string rs, .slice rka rkn rkc, .slice rna rns.length rnc, .slice ra rl.length rcc] 28 (0, 0)) := nHQ w3 (.cells #[.int .i64 rop, .int .i64 rn, .string rs, .slice rka rkn rkc, .slice rna rns.length rnc, .slice ra rl.length rcc] 28)
    have hsz3 : ((w3.alloc (.cells #[.int .i64 rop, .int .i64 rn, .string rs, .slice rka rkn rkc, .slice rna rns.length rnc, .slice ra rl.length rcc] 28)).drew).heap.size = w3.heap.size + 1 := by show (w3.alloc _).heap.size = _; simp
    have HSZ := hJQ hsz3
    clear hsz3
    refine wp_region_held_drew (S := (fun w9 => w9.cell? ⟨w.heap.size, 5, none⟩ = some (.slice (some ⟨b, off, none⟩) 2 xcc)/\w9.cell? ⟨b, off, none⟩ = some (.int .i64 11)/\w9.cell? ⟨b, off + 5, none⟩ = some (.slice (some ⟨b2, of2, none⟩) 1 fcc)/\w9.cell? ⟨b, off + 6, none⟩ = some (.int .i64 rop)/\w9.cell? ⟨b, off + 6 + 1, none⟩ = some (.int .i64 rn)/\w9.cell? ⟨b, off + 6 + 2, none⟩ = some (.string rs)/\w9.cell? ⟨b, off + 6 + 3, none⟩ = some (.slice rka rkn rkc)/\w9.cell? ⟨b, off + 6 + 4, none⟩ = some (.slice rna rns.length rnc)/\w9.cell? ⟨b, off + 6 + 5, none⟩ = some (.slice ra rl.length rcc)/\w9.cell? ⟨b2, of2, none⟩ = some (.int .i64 qop)/\w9.cell? ⟨b2, of2 + 1, none⟩ = some (.int .i64 qn)/\w9.cell? ⟨b2, of2 + 2, none⟩ = some (.string qs)/\w9.cell? ⟨b2, of2 + 3, none⟩ = some (.slice qka qkn qkc)/\w9.cell? ⟨b2, of2 + 4, none⟩ = some (.slice qna qns.length qnc)/\w9.cell? ⟨b2, of2 + 5, none⟩ = some (.slice qa ql.length qcc))) (by kernel_rfl) (HSS.out _ (fNQ hgD _)) (fun hHeld => ?_)
    refine tks (b := ?_) (by kernel_rfl) (fun _ _ _ _ _ h => h) (HSS.out _ (fNQ hgD _)) 11 [0, 1, 2, 3, 4, 5, 6, 7, 8, 9, 10] (by kernel_rfl) ?_ ?_
    rotate_left
    ·iterate 11 (refine yc (v := ?_) rfl rfl (by rfl) (fun w9 hSw => ?_) ?_; rotate_left; (focus go_simp; try rfl); simp only [Act.put, l1Q, l2Q, l3Q])
     exact rfl
    refine rd1 11 (by kernel_rfl) (by rfl) (fun K hK => ?_)
    go_simp
    refine hK.out _ _ (HSS.out _ (fNQ hgA _)) (fun _ => ?_)
    clear hK K
    refine rd1 12 (by kernel_rfl) (by rfl) (fun K hK => ?_)
    go_simp
    go_at_call 40
    refine (HSu.out w3.heap.size _ hbA (by have := HSW.out; omega) (by have := HSW.out; have := HSZ.out; omega) kRow).mono ?_
    rintro e w5 ⟨⟨d, rfl, hd, hpd⟩, hb5⟩
    obtain ⟨zop, zn, zs, zk, zns, zl, zka, zkn, zkc, zna, znc, za, zcc, rfl, hzk, _⟩ := cSQ hd
    have HZV := hJQ (cVQ (op := zop) (n := zn) (s := zs) (nv := .slice zna zns.length znc) (lv := .slice za zl.length zcc) (ns := zns) (l := zl) hzk)
    rw [HZV.out]
    have hg5 := gBQ hgA (gLQ hb5)
    have hgS := gBQ (fNQ hg5 (some (w.heap.size + 1))) (gRQ w5 (w.heap.size + 1) #[.int .i64 zop, .int .i64 zn, .string zs, .slice zka zkn zkc, .slice zna zns.length znc, .slice za zl.length zcc])
    have hbw5 := hbA.trans (hb5.mono hbA.size)
    have kR5 : w5.heap[(w.heap.size + 1)]? = some (.cells #[.int .i64 0, .int .i64 0, .string ⟨#[]⟩, .slice none 0 0, .slice none 0 0, .slice none 0 0] 28) := (hg5.block _ (hLQ HR0.out) (by nofun)).trans HR0.out
    refine hK.out _ _ (HSS.out _ (fNQ hg5 _)) (fun _ => ?_)
    clear hK K
    refine held_store 13 (by kernel_rfl) (by rfl) (by rfl) (by rfl) 28 _ _ (by rfl) (w.heap.size + 1) #[.int .i64 zop, .int .i64 zn, .string zs, .slice zka zkn zkc, .slice zna zns.length znc, .slice za zl.length zcc] (by rfl) (by rfl) 28 _ kR5 cIQ rfl (all_one _ rfl) (HSS.out _ hgS) ?_
    refine tks (b := ?_) (by kernel_rfl) (fun _ _ _ _ _ h => h) (HSS.out _ hgS) 1 [14] (by kernel_rfl) ?_ ?_
    rotate_left
    ·refine yc (v := ?_) rfl rfl (by rfl) (fun w9 hSw => ?_) ?_; rotate_left; (focus go_simp; try rfl); simp only [Act.put, l1Q, l2Q, l3Q]
     exact rfl
    refine wpAnyH_done (by kernel_rfl) ?_ _
    have HRF := hJQ (setRow_heap w5 (w.heap.size + 1) _ #[.int .i64 zop, .int .i64 zn, .string zs, .slice zka zkn zkc, .slice zna zns.length znc, .slice za zl.length zcc] _ _ kR5)
    have hrow := gRQ w5 (w.heap.size + 1) #[.int .i64 zop, .int .i64 zn, .string zs, .slice zka zkn zkc, .slice zna zns.length znc, .slice za zl.length zcc]
    have HBF := hJQ (hbw5.trans (gUQ (B := w.heap.size) hrow hbw5.size (fun q hq => by have e2 : w.heap.size + 1 = q := oJQ hq; omega)))
    have HDF := hJQ ((hd.grown hrow (fun q hq hp => hp.2 (oJQ hq).symm)).mono (Q := P) (fun b hb _ => hb.1))
    clear hrow hgS hg5 hgA hgD hg3 hbw3 kR5 kRow hbA hb5 hd hHeld HSS
    generalize w5.setRow (w.heap.size + 1) #[.int .i64 zop, .int .i64 zn, .string zs, .slice zka zkn zkc, .slice zna zns.length znc, .slice za zl.length zcc] = V6 at *
    go_wp2_with fail
    refine bodyPost_ret (res2 rfl rfl rfl HRF.out) rfl (rstep_mk (d := (ConD.mk zop zn zs zk (.slice zna zns.length znc) zns (.slice za zl.length zcc) zl)) HZV.out.symm HDF.out HBF.out (fun hn => by cases hn) (fun t' ht' => ?_))
    ·obtain rfl := oJQ ht'
     rw [hpd]
     exact ⟨rfl, fun _ => rfl, fun hv => hv, HBT.out⟩
  ·rw [if_neg (show ¬ (pC (ConD.mk fop fn fs fk (.slice fna fns.length fnc) fns (.slice fa fl.length fcc) fl)).op = 11 by rw [pMQ]; exact hf)]
   obtain ⟨TF, hTF⟩ : ∃ T, pC (ConD.mk fop fn fs fk (.slice fna fns.length fnc) fns (.slice fa fl.length fcc) fl) = T := ⟨_, rfl⟩
   obtain ⟨TG, hTG⟩ : ∃ T, pC (ConD.mk rop rn rs rk (.slice rna rns.length rnc) rns (.slice ra rl.length rcc) rl) = T := ⟨_, rfl⟩
   have HFP := hJQ (hF.lt.mono (Q := (fun b => P b/\b ≠ w.heap.size + 1)) (fun b hb _ => ⟨hb.1, by have := hb.2; omega⟩))
   have HGP := hJQ (hG.lt.mono (Q := (fun b => P b/\b ≠ w.heap.size + 1)) (fun b hb _ => ⟨hb.1, by have := hb.2; omega⟩))
   have HFV := hJQ (cVQ (op := fop) (n := fn) (s := fs) (nv := .slice fna fns.length fnc) (lv := .slice fa fl.length fcc) (ns := fns) (l := fl) hfk)
   have HRC : Hid (∀ U, Below w.heap.size w U->w.heap.size + 2<=U.heap.size->Calls Tryz.prog 37 #[.agg #[.int .i64 fop, .int .i64 fn, .string fs, .slice fka fkn fkc, .slice fna fns.length fnc, .slice fa fl.length fcc]] U (RStepOk (fun b => P b/\b ≠ w.heap.size + 1) (stepC TF) U)) := fun U hU hU2 => by
    have := HI.out (ConD.mk fop fn fs fk (.slice fna fns.length fnc) fns (.slice fa fl.length fcc) fl) (by show _ ∈ [_, _]; simp) (fun b => P b/\b ≠ w.heap.size + 1) U (fun b hb => ⟨hP b (by have := hU.size; omega), by omega⟩) (iBQ HFP.out hU) hvF hbF
    rw [HFV.out, hTF] at this
    exact this
   rw [hTF, hTG]
   rw [hTG] at hbG
   have HBG := hJQ hbG
   have HTG := hJQ hTG
   have HG := hJQ hG
   have HRK2 : Hid (cEQ (ConD.mk rop rn rs rk (.slice rna rns.length rnc) rns (.slice ra rl.length rcc) rl) = [.int .i64 rop, .int .i64 rn, .string rs, .slice rka rkn rkc, .slice rna rns.length rnc, .slice ra rl.length rcc]) := by show [_, _, _, rk.v, _, _] = _; rw [hrk]; rfl
   have hf' : (fop == 11) = false := nEQ hf
   have HFC := hJQ hfc
   have HGC := hJQ hgc
   have hpc : ∀ (o : Nat) (v : Value), w.cell? ⟨b, o, none⟩ = some v->((w.alloc (.cells #[.int .i64 12, .int .i64 xn, .string xs, .slice xka xkn xkc, .slice xna xns.length xnc, .slice (some ⟨b, off, none⟩) [(ConD.mk fop fn fs fk (.slice fna fns.length fnc) fns (.slice fa fl.length fcc) fl), (ConD.mk rop rn rs rk (.slice rna rns.length rnc) rns (.slice ra rl.length rcc) rl)].length xcc] 28)).alloc (.cells #[.int .i64 0, .int .i64 0, .string ⟨#[]⟩, .slice none 0 0, .slice none 0 0, .slice none 0 0] 28)).cell? ⟨b, o, none⟩ = some v := fun o v hc => (World.cell?_of_block (a := ⟨b, o, none⟩) (hbW.block b hbl)).trans hc
   obtain ⟨f0, f1, f2, f3, f4, f5⟩ := hfc
   have p0 := hpc _ _ f0
   have p1 := hpc _ _ f1
   have p2 := hpc _ _ f2
   have p3 := hpc _ _ f3
   have p4 := hpc _ _ f4
   have p5 := hpc _ _ f5
   have HR0 := hJQ kR
   have HX5 := HB0
   clear h hv hb HI hst hvF hvG hbF hbG hm hTF hTG hfk hrk hgc f0 f1 f2 f3 f4 f5 hpc hF hG hP HXV HFV hf kR
   go_enter Tryz.func37, Tryz.ntmps37
   go_upto_region 3 with fail
   generalize ((w.alloc (.cells #[.int .i64 12, .int .i64 xn, .string xs, .slice xka xkn xkc, .slice xna xns.length xnc, .slice (some ⟨b, off, none⟩) [(ConD.mk fop fn fs fk (.slice fna fns.length fnc) fns (.slice fa fl.length fcc) fl), (ConD.mk rop rn rs rk (.slice rna rns.length rnc) rns (.slice ra rl.length rcc) rl)].length xcc] 28)).alloc (.cells #[.int .i64 0, .int .i64 0, .string ⟨#[]⟩, .slice none 0 0, .slice none 0 0, .slice none 0 0] 28)) = W at *
   go_quiet (fail)
   go_wp2_with fail
   have hbQ : Below w.heap.size w (W.drewN nq) := hbW.trans ⟨rfl, rfl, rfl, Nat.le_refl _, fun _ _ => rfl⟩
   refine (HRC.out _ hbQ (by show _<=W.heap.size; have := HSW.out; omega)).mono ?_
   rintro e w3 ⟨d, bb, rfl, hd, hb3, hno, hyes⟩
   obtain ⟨zop, zn, zs, zk, zns, zl, zka, zkn, zkc, zna, znc, za, zcc, rfl, hzk, _⟩ := cSQ hd
   rw [cVQ (op := zop) (n := zn) (s := zs) (nv := .slice zna zns.length znc) (lv := .slice za zl.length zcc) (ns := zns) (l := zl) hzk]
   obtain ⟨hgZ, kZ, hrow, kZ2, hb34⟩ := fresh_put w3 #[.int .i64 zop, .int .i64 zn, .string zs, .slice zka zkn zkc, .slice zna zns.length znc, .slice za zl.length zcc]
   have hs3 := hb3.size
   have hsB := hbQ.size
   have hbV := hbQ.trans (hb3.mono hsB)
   have hbV := hbV.trans (hb34.mono hbV.size)
   have k3R := (hb3.block _ (hLQ HR0.out)).trans HR0.out
   have k3B := (hb3.block _ (hLQ HX5.out)).trans HX5.out
   have HB0V := hJQ ((hb34.block _ (hLQ k3B)).trans k3B)
   have kRV := (hb34.block _ (hLQ k3R)).trans k3R
   have HDV := hJQ (iBQ hd hb34)
   have HZ2 := hJQ kZ2
   have HNO := hJQ hno
   have HYES := hJQ hyes
   have HZK : Hid (cEQ (ConD.mk zop zn zs zk (.slice zna zns.length znc) zns (.slice za zl.length zcc) zl) = [.int .i64 zop, .int .i64 zn, .string zs, .slice zka zkn zkc, .slice zna zns.length znc, .slice za zl.length zcc]) := by show [_, _, _, zk.v, _, _] = _; rw [hzk]; rfl
   have kBV := ((hbV.block b hbl))
   have HNZ : Hid (w3.heap.size ≠ w.heap.size + 1) := by show _ ≠ _; have : (W.drewN nq).heap.size = W.heap.size := rfl; have := HSW.out; omega
   clear hgZ hrow kZ2 hb34 hd hno hyes hb3 hzk k3R k3B HRC hbQ hs3 hsB
   go_upto_region 8 with (refine wpList_store_row rfl 28 _ _ rfl w3.heap.size _ rfl rfl 28 _ kZ cIQ rfl (all_one _ rfl) ?_)
   clear kZ p0 p1 p2 p3 p4 p5 c0 c1 c2 c3 c4 c5
   generalize (w3.alloc (.cells #[.int .i64 0, .int .i64 0, .string ⟨#[]⟩, .slice none 0 0, .slice none 0 0, .slice none 0 0] 28)).setRow w3.heap.size #[.int .i64 zop, .int .i64 zn, .string zs, .slice zka zkn zkc, .slice zna zns.length znc, .slice za zl.length zcc] = V at *
   cases bb
   ·have HSN : Hid (Option.map (fun t => appC t TG) (stepC TF) = none) := by
     cases hs : stepC TF with
     | none => rfl
     | some t => have := (HYES.out t hs).1; cases this
    obtain ⟨HRF, HBF⟩ := put_res hbV kRV #[.int .i64 0, .int .i64 0, .string ⟨#[]⟩, .slice none 0 0, .slice none 0 0, .slice none 0 0]
    go_wp2_with (refine wpList_store_row rfl 28 _ _ rfl (w.heap.size + 1) _ rfl rfl 28 _ kRV cIQ rfl (all_one _ rfl) ?_)
    refine bodyPost_ret (res2 rfl rfl rfl HRF.out) rfl (rstep_mk (d := zeroD) rfl (zeroD_con _ _) HBF.out (fun _ => rfl) (fun t ht => by rw [HSN.out] at ht; cases ht))
   ·obtain ⟨t, hst⟩ : ∃ t, stepC TF = some t := by
     cases hs : stepC TF with
     | none => have := HNO.out hs; cases this
     | some t => exact ⟨t, rfl⟩
    obtain ⟨_, hy1, hy2, hy3⟩ := HYES.out t hst
    have HST := hJQ hst
    have HY := hJQ (And.intro hy1 (And.intro hy2 hy3))
    clear hst hy1 hy2 hy3 HNO HYES
    go_upto_region 10 with fail
    have hltR := hLQ kRV
    have hltB := hLQ HB0V.out
    have hltZ := hLQ HZ2.out
    have hsV := hbV.size
    have HSS : Hid (∀ U, V.grownBy U (some (w.heap.size + 1))->(fun w9 => w9.cell? ⟨w.heap.size, 5, none⟩ = some (.slice (some ⟨b, off, none⟩) 2 xcc)/\w9.cell? ⟨b, off + 6, none⟩ = some (.int .i64 rop)/\w9.cell? ⟨b, off + 6 + 1, none⟩ = some (.int .i64 rn)/\w9.cell? ⟨b, off + 6 + 2, none⟩ = some (.string rs)/\w9.cell? ⟨b, off + 6 + 3, none⟩ = some (.slice rka rkn rkc)/\w9.cell? ⟨b, off + 6 + 4, none⟩ = some (.slice rna rns.length rnc)/\w9.cell? ⟨b, off + 6 + 5, none⟩ = some (.slice ra rl.length rcc)/\w9.cell? ⟨w3.heap.size, 0, none⟩ = some (.int .i64 zop)/\w9.cell? ⟨w3.heap.size, 1, none⟩ = some (.int .i64 zn)/\w9.cell? ⟨w3.heap.size, 2, none⟩ = some (.string zs)/\w9.cell? ⟨w3.heap.size, 3, none⟩ = some (.slice zka zkn zkc)/\w9.cell? ⟨w3.heap.size, 4, none⟩ = some (.slice zna zns.length znc)/\w9.cell? ⟨w3.heap.size, 5, none⟩ = some (.slice za zl.length zcc)) U) := fun U hU => by
     have hr : ∀ (o : Nat) (v : Value), w.cell? ⟨b, o, none⟩ = some v->U.cell? ⟨b, o, none⟩ = some v := fun o v hc => (World.cell?_of_block (a := ⟨b, o, none⟩) ((hU.block b (by omega) (fun e => by have e2 : b = w.heap.size + 1 := oJQ e; omega)).trans kBV)).trans hc
     obtain ⟨g0, g1, g2, g3, g4, g5⟩ := HGC.out
     obtain ⟨y0, y1, y2, y3, y4, y5⟩ := cnQ ((hU.block _ hltZ (fun e => HNZ.out (oJQ e))).trans HZ2.out)
     exact ⟨(cnQ ((hU.block _ hltB (fun e => by have e2 : w.heap.size = w.heap.size + 1 := oJQ e; omega)).trans HB0V.out)).2.2.2.2.2, hr _ _ g0, hr _ _ g1, hr _ _ g2, hr _ _ g3, hr _ _ g4, hr _ _ g5, y0, y1, y2, y3, y4, y5⟩
    have hgD : V.grownBy V.drew none := gDQ V
    have hgA := gBQ (gAQ V (.cells #[.int .i64 zop, .int .i64 zn, .string zs, .slice zka zkn zkc, .slice zna zns.length znc, .slice za zl.length zcc, .int .i64 rop, .int .i64 rn, .string rs, .slice rka rkn rkc, .slice rna rns.length rnc, .slice ra rl.length rcc] 28)) (gDQ (V.alloc (.cells #[.int .i64 zop, .int .i64 zn, .string zs, .slice zka zkn zkc, .slice zna zns.length znc, .slice za zl.length zcc, .int .i64 rop, .int .i64 rn, .string rs, .slice rka rkn rkc, .slice rna rns.length rnc, .slice ra rl.length rcc] 28)))
    have hgS := gBQ (fNQ hgA (some (w.heap.size + 1))) (gRQ ((V.alloc (.cells #[.int .i64 zop, .int .i64 zn, .string zs, .slice zka zkn zkc, .slice zna zns.length znc, .slice za zl.length zcc, .int .i64 rop, .int .i64 rn, .string rs, .slice rka rkn rkc, .slice rna rns.length rnc, .slice ra rl.length rcc] 28)).drew) (w.heap.size + 1) #[.int .i64 12, .int .i64 0, .string ⟨#[]⟩, .slice none 0 0, .slice none 0 0, .slice (some ⟨V.heap.size, 0, none⟩) 2 2])
    have kRA : ((V.alloc (.cells #[.int .i64 zop, .int .i64 zn, .string zs, .slice zka zkn zkc, .slice zna zns.length znc, .slice za zl.length zcc, .int .i64 rop, .int .i64 rn, .string rs, .slice rka rkn rkc, .slice rna rns.length rnc, .slice ra rl.length rcc] 28)).drew).heap[(w.heap.size + 1)]? = some (.cells #[.int .i64 0, .int .i64 0, .string ⟨#[]⟩, .slice none 0 0, .slice none 0 0, .slice none 0 0] 28) := (hgA.block _ hltR (by nofun)).trans kRV
    refine wp_region_held_drew (S := (fun w9 => w9.cell? ⟨w.heap.size, 5, none⟩ = some (.slice (some ⟨b, off, none⟩) 2 xcc)/\w9.cell? ⟨b, off + 6, none⟩ = some (.int .i64 rop)/\w9.cell? ⟨b, off + 6 + 1, none⟩ = some (.int .i64 rn)/\w9.cell? ⟨b, off + 6 + 2, none⟩ = some (.string rs)/\w9.cell? ⟨b, off + 6 + 3, none⟩ = some (.slice rka rkn rkc)/\w9.cell? ⟨b, off + 6 + 4, none⟩ = some (.slice rna rns.length rnc)/\w9.cell? ⟨b, off + 6 + 5, none⟩ = some (.slice ra rl.length rcc)/\w9.cell? ⟨w3.heap.size, 0, none⟩ = some (.int .i64 zop)/\w9.cell? ⟨w3.heap.size, 1, none⟩ = some (.int .i64 zn)/\w9.cell? ⟨w3.heap.size, 2, none⟩ = some (.string zs)/\w9.cell? ⟨w3.heap.size, 3, none⟩ = some (.slice zka zkn zkc)/\w9.cell? ⟨w3.heap.size, 4, none⟩ = some (.slice zna zns.length znc)/\w9.cell? ⟨w3.heap.size, 5, none⟩ = some (.slice za zl.length zcc))) (by kernel_rfl) (HSS.out _ (fNQ hgD _)) (fun hHeld => ?_)
    refine tks (b := ?_) (by kernel_rfl) (fun _ _ _ _ _ h => h) (HSS.out _ (fNQ hgD _)) 5 [0, 1, 2, 3, 4] (by kernel_rfl) ?_ ?_
    rotate_left
    ·iterate 5 (refine yc (v := ?_) rfl rfl (by rfl) (fun w9 hSw => ?_) ?_; rotate_left; (focus go_simp; try rfl); simp only [Act.put, l1Q, l2Q, l3Q])
     exact rfl
    refine rd1 5 (by kernel_rfl) (by rfl) (fun K hK => ?_)
    go_simp
    refine hK.out _ _ (HSS.out _ (fNQ hgA _)) (fun _ => ?_)
    clear hK K
    refine tks (b := ?_) (by kernel_rfl) (fun _ _ _ _ _ h => h) (HSS.out _ (fNQ hgA _)) 1 [6] (by kernel_rfl) ?_ ?_
    rotate_left
    ·refine yc (v := ?_) rfl rfl (by rfl) (fun w9 hSw => ?_) ?_; rotate_left; (focus go_simp; try rfl); simp only [Act.put, l1Q, l2Q, l3Q]
     exact rfl
    refine held_store 7 (by kernel_rfl) (by rfl) (by rfl) (by rfl) 28 _ _ (by rfl) (w.heap.size + 1) #[.int .i64 12, .int .i64 0, .string ⟨#[]⟩, .slice none 0 0, .slice none 0 0, .slice (some ⟨V.heap.size, 0, none⟩) 2 2] (by rfl) (by rfl) 28 _ kRA cIQ rfl (all_one _ rfl) (HSS.out _ hgS) ?_
    refine tks (b := ?_) (by kernel_rfl) (fun _ _ _ _ _ h => h) (HSS.out _ hgS) 1 [8] (by kernel_rfl) ?_ ?_
    rotate_left
    ·refine yc (v := ?_) rfl rfl (by rfl) (fun w9 hSw => ?_) ?_; rotate_left; (focus go_simp; try rfl); simp only [Act.put, l1Q, l2Q, l3Q]
     exact rfl
    refine wpAnyH_done (by kernel_rfl) ?_ _
    have HRF := hJQ (setRow_heap ((V.alloc (.cells #[.int .i64 zop, .int .i64 zn, .string zs, .slice zka zkn zkc, .slice zna zns.length znc, .slice za zl.length zcc, .int .i64 rop, .int .i64 rn, .string rs, .slice rka rkn rkc, .slice rna rns.length rnc, .slice ra rl.length rcc] 28)).drew) (w.heap.size + 1) _ #[.int .i64 12, .int .i64 0, .string ⟨#[]⟩, .slice none 0 0, .slice none 0 0, .slice (some ⟨V.heap.size, 0, none⟩) 2 2] _ _ kRA)
    have HBF := hJQ (hbV.trans (gUQ (B := w.heap.size) hgS hsV (fun q hq => by have e2 : w.heap.size + 1 = q := oJQ hq; omega)))
    have kN : (((V.alloc (.cells #[.int .i64 zop, .int .i64 zn, .string zs, .slice zka zkn zkc, .slice zna zns.length znc, .slice za zl.length zcc, .int .i64 rop, .int .i64 rn, .string rs, .slice rka rkn rkc, .slice rna rns.length rnc, .slice ra rl.length rcc] 28)).drew).setRow (w.heap.size + 1) #[.int .i64 12, .int .i64 0, .string ⟨#[]⟩, .slice none 0 0, .slice none 0 0, .slice (some ⟨V.heap.size, 0, none⟩) 2 2]).heap[V.heap.size]? = some (.cells (cEQ (ConD.mk zop zn zs zk (.slice zna zns.length znc) zns (.slice za zl.length zcc) zl) ++ cEQ (ConD.mk rop rn rs rk (.slice rna rns.length rnc) rns (.slice ra rl.length rcc) rl)).toArray 28) := by
     rw [HZK.out, HRK2.out]
     exact (setRow_other _ _ _ _ (by omega)).trans (nHQ V (.cells #[.int .i64 zop, .int .i64 zn, .string zs, .slice zka zkn zkc, .slice zna zns.length znc, .slice za zl.length zcc, .int .i64 rop, .int .i64 rn, .string rs, .slice rka rkn rkc, .slice rna rns.length rnc, .slice ra rl.length rcc] 28))
    have HDF : Hid (IsCon P (((V.alloc (.cells #[.int .i64 zop, .int .i64 zn, .string zs, .slice zka zkn zkc, .slice zna zns.length znc, .slice za zl.length zcc, .int .i64 rop, .int .i64 rn, .string rs, .slice rka rkn rkc, .slice rna rns.length rnc, .slice ra rl.length rcc] 28)).drew).setRow (w.heap.size + 1) #[.int .i64 12, .int .i64 0, .string ⟨#[]⟩, .slice none 0 0, .slice none 0 0, .slice (some ⟨V.heap.size, 0, none⟩) 2 2]) (ConD.mk 12 0 ⟨#[]⟩ (.mk (.slice none 0 0) []) (.slice none 0 0) [] (.slice (some ⟨V.heap.size, 0, none⟩) 2 2) [(ConD.mk zop zn zs zk (.slice zna zns.length znc) zns (.slice za zl.length zcc) zl), (ConD.mk rop rn rs rk (.slice rna rns.length rnc) rns (.slice ra rl.length rcc) rl)])) := app_con ((HDV.out.grown hgS (fun q hq hp => hp.2 (oJQ hq).symm)).mono (fun b hb _ => hb.1)) ((iBQ HGP.out HBF.out).mono (fun b hb _ => hb.1)) (HPP.out _ hsV) kN
    clear hgD hgA hgS kRA kN
    generalize ((V.alloc (.cells #[.int .i64 zop, .int .i64 zn, .string zs, .slice zka zkn zkc, .slice zna zns.length znc, .slice za zl.length zcc, .int .i64 rop, .int .i64 rn, .string rs, .slice rka rkn rkc, .slice rna rns.length rnc, .slice ra rl.length rcc] 28)).drew).setRow (w.heap.size + 1) #[.int .i64 12, .int .i64 0, .string ⟨#[]⟩, .slice none 0 0, .slice none 0 0, .slice (some ⟨V.heap.size, 0, none⟩) 2 2] = V6 at *
    go_wp2_with fail
    refine bodyPost_ret (res2 rfl rfl rfl HRF.out) rfl (rstep_mk (d := (ConD.mk 12 0 ⟨#[]⟩ (.mk (.slice none 0 0) []) (.slice none 0 0) [] (.slice (some ⟨V.heap.size, 0, none⟩) 2 2) [(ConD.mk zop zn zs zk (.slice zna zns.length znc) zns (.slice za zl.length zcc) zl), (ConD.mk rop rn rs rk (.slice rna rns.length rnc) rns (.slice ra rl.length rcc) rl)])) rfl HDF.out HBF.out (fun hn => by rw [HST.out] at hn; cases hn) (fun t' ht' => ?_))
    ·rw [HST.out] at ht'
     obtain rfl : appC t TG = t' := oJQ ht'
     rw [app_pure, HTG.out]
     obtain ⟨hy1, hy2, hy3⟩ := HY.out
     exact ⟨rfl, fun hv => by rw [hy1 (app_val hv)], fun hv => app_inval hy1 hy2 hv, app_bnd hy3 HBG.out⟩
 ·have hop' : (xop != 12) = true := nNQ hop
  have HSN : Hid (stepC (pC (ConD.mk xop xn xs xk (.slice xna xns.length xnc) xns (.slice xa xl.length xcc) xl)) = none) := step_leaf (by rw [pMQ]; exact hop)
  clear h hv hb HI
  go_enter Tryz.func37, Tryz.ntmps37
  go_upto_region 2 with fail
  generalize ((w.alloc (.cells #[.int .i64 xop, .int .i64 xn, .string xs, .slice xka xkn xkc, .slice xna xns.length xnc, .slice xa xl.length xcc] 28)).alloc (.cells #[.int .i64 0, .int .i64 0, .string ⟨#[]⟩, .slice none 0 0, .slice none 0 0, .slice none 0 0] 28)) = W at *
  obtain ⟨HRF, HBF⟩ := put_res hbW kR #[.int .i64 0, .int .i64 0, .string ⟨#[]⟩, .slice none 0 0, .slice none 0 0, .slice none 0 0]
  go_wp2_with (refine wpList_store_row rfl 28 _ _ rfl (w.heap.size + 1) _ rfl rfl 28 _ kR cIQ rfl (all_one _ rfl) ?_)
  refine bodyPost_ret (res2 rfl rfl rfl HRF.out) rfl (rstep_mk (d := zeroD) rfl (zeroD_con _ _) HBF.out (fun _ => rfl) (fun t ht => by rw [HSN.out] at ht; cases ht))
theorem rstep_any : ∀ (x : ConD), RStepAll x := ConD.ind (fun op n s k nv ns lv l ih => rstep_one (.mk op n s k nv ns lv l) ih)
end Go.Proofs.YtkiffgdinmpljaaGreatDoor
