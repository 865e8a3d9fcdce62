/- Part of the proof; its texts: Ry2 Ry3. -/
import Derived.Test.YtbcfdebdikgijaaGreatDoorS26
set_option maxRecDepth 100000
set_option linter.unusedVariables false
set_option linter.unusedSimpArgs false
set_option maxHeartbeats 4000000
namespace Go.Proofs.YtbcfdebdikgijaaGreatDoor
open Go Go.RowKit
open Go.Maps
structure bI (M : Nat -> Prop) (d : Nat) (w : World) (ob vb : Nat) (vy : Value) (x : ZT) (left : Int) (k : Nat) (acc : List Z0) (lk : Int) (ov : Value) (hb : Nat) (wr : World) : Prop where
 RI : wr.heap[w.heap.size]? = some (.cells #[.int .i64 0, .int .i64 0, .string ⟨#[]⟩, .slice none 0 0, .slice none 0 0] 43 (0, 0))
 Ib : wr.heap[hb]? = some (.cells #[.int .i64 x.op, .int .i64 x.n, .string x.s, .slice none 0 0, ov] 43 (0, 0))
 obc : wr.heap[ob]? = some (.cells #[.int .i64 lk] 87 (0, 0))
 hbw : w.heap.size < hb
 own : wr.ownsRow (hb + 1) 43 5 ov acc.length (X7 acc)
 kids : ∀ y ∈ acc, Pm (hb + 1) ov.ownBlock wr y
 grown : w.grownBy wr (some ob)
 eq : RB (UH d) (x.l.drop k) lk (acc.map ZW) = RB (UH d) x.l (left - 1) []
 len : acc.length = k
 sum : (k : Int) + lk <= left - 1
 pos : 0 <= lk
 le : k <= x.l.length
def nC (M : Nat -> Prop) (P : Zz) (d : Nat) : Prop := ∀ (ob : Nat) (vy : Value) (v : ZT) (w : World) (left : Int), Wx M w vy v -> VG P v -> w.heap[ob]? = some (.cells #[.int .i64 left] 87 (0, 0)) -> 0 <= left -> left <= 20000 ->
 Calls Tryz.prog 32 #[.pointer (some ⟨ob, 0, none⟩), vy, .int .i64 (d : Int)] w (kG ob (UH d v left) w)
theorem kF {α : Type} (d : α) (l : List α) (k : Nat) (h : k < l.length) : l.drop k = l.getD k d :: l.drop (k + 1) := by
 rw [List.drop_eq_getElem_cons h]; simp [List.getD, List.getElem?_eq_getElem h]
theorem Rc {w w1 w2 : World} {ob : Nat} {g : Option Nat} (h : w.grownBy w1 (some ob)) (k : w1.grownBy w2 g) (hg : ∀ q, g = some q -> w.heap.size <= q \/ q = ob) : w.grownBy w2 (some ob) :=
 ⟨k.os.trans h.os, k.tape.trans h.tape, k.output.trans h.output, Nat.le_trans h.size k.size, fun q hq hr => (k.block q (Nat.lt_of_lt_of_le hq h.size) (fun e => by
   rcases hg q e.symm with h' | h'
   ·omega
   ·exact hr (by rw [h']))).trans (h.block q hq hr)⟩
theorem yE {M : Nat -> Prop} {d ob vb k hb0 : Nat} {w wr w4 : World} {vy ov yv : Value} {x : ZT} {left lk yo yn : Int} {ys : ByteArray} {yl acc : List Z0} {r2 : ZT × Int} (HO : ob < w.heap.size) (HL : bI M d w ob vb vy x left k acc lk ov hb0 wr) (hkl : k < x.l.length) (h2 : r2.2 <= lk - 1) (hn : ¬ r2.2 < 0)
 (heq : RB (UH d) (x.l.drop (k + 1)) r2.2 (acc.map ZW ++ [r2.1]) = RB (UH d) x.l (left - 1) []) (hs : ZW (.mk yo yn ys yv yl) = r2.1) (hi : Pm wr.drew.heap.size none w4 (.mk yo yn ys yv yl)) (hg : wr.drew.grownBy w4 (some ob)) (ho4 : w4.heap[ob]? = some (.cells #[.int .i64 r2.2] 87 (0, 0))) :
 w4.cell? ⟨hb0, 4, none⟩ = some ov /\ (w4.alloc (.cells #[.int .i64 yo, .int .i64 yn, .string ys, .slice none 0 0, yv] 43)).cell? ⟨hb0, 4, none⟩ = some ov /\ (w4.alloc (.cells #[.int .i64 yo, .int .i64 yn, .string ys, .slice none 0 0, yv] 43)).ownsRow (hb0 + 1) 43 5 ov acc.length (X7 acc) /\ hb0 + 1 <= (w4.alloc (.cells #[.int .i64 yo, .int .i64 yn, .string ys, .slice none 0 0, yv] 43)).heap.size /\ ∀ (g cap : Nat) (w6 : World), w6.ownsRow (hb0 + 1) 43 5 (.slice (some ⟨g, 0, none⟩) (acc.length + 1) cap) (acc.length + 1) (X7 acc ++ [.int .i64 yo, .int .i64 yn, .string ys, .slice none 0 0, yv]) -> (w4.alloc (.cells #[.int .i64 yo, .int .i64 yn, .string ys, .slice none 0 0, yv] 43)).grownBy w6 ov.ownBlock -> (ov.ownBlock = some g \/ g = (w4.alloc (.cells #[.int .i64 yo, .int .i64 yn, .string ys, .slice none 0 0, yv] 43)).heap.size) ->
  w6.cell? ⟨hb0, 4, none⟩ = some ov /\ w6.frozen? ⟨hb0, 4, none⟩ = false /\ bI M d w ob vb vy x left (k + 1) (acc ++ [.mk yo yn ys yv yl]) r2.2 (.slice (some ⟨g, 0, none⟩) (acc.length + 1) cap) hb0 (w6.setCell ⟨hb0, 4, none⟩ (.slice (some ⟨g, 0, none⟩) (acc.length + 1) cap)) := by
 have h0 := HL.hbw
 have hz := Z6 HL.Ib
 have hsz : wr.heap.size <= w4.heap.size := hg.size
 have hzD : (w4.alloc (.cells #[.int .i64 yo, .int .i64 yn, .string ys, .slice none 0 0, yv] 43)).heap.size = w4.heap.size + 1 := by simp
 have g5 := Z8 w4 (.cells #[.int .i64 yo, .int .i64 yn, .string ys, .slice none 0 0, yv] 43)
 have hB4 : ∀ q, q < wr.heap.size -> q ≠ ob -> w4.heap[q]? = wr.heap[q]? := fun q hq hne => hg.block q hq (fun e => hne (Option.some.inj e))
 have fq : ∀ q, q < w4.heap.size -> (w4.alloc (.cells #[.int .i64 yo, .int .i64 yn, .string ys, .slice none 0 0, yv] 43)).heap[q]? = w4.heap[q]? := fun q hq => g5.block q hq (by nofun)
 have hol := Zw HL.own
 have b4 := (hB4 hb0 hz (by omega)).trans HL.Ib
 have bD := (fq hb0 (by omega)).trans b4
 have hD : wr.grownBy (w4.alloc (.cells #[.int .i64 yo, .int .i64 yn, .string ys, .slice none 0 0, yv] 43)) (some ob) := Rc (w := wr) (ob := ob) ((YA (Z4 wr) _).trans hg) g5 (by nofun)
 refine ⟨(Yh b4).2.2.2.2, (Yh bD).2.2.2.2, Zx HL.own hD (fun q hq e => by have := hol q e; have := Option.some.inj hq; omega), by omega, fun g cap w6 hown6 Y6 hat => ?_⟩
 have hz6 := Y6.size
 have hB : ∀ q, q < (w4.alloc (.cells #[.int .i64 yo, .int .i64 yn, .string ys, .slice none 0 0, yv] 43)).heap.size -> ov.ownBlock ≠ some q -> w6.heap[q]? = (w4.alloc (.cells #[.int .i64 yo, .int .i64 yn, .string ys, .slice none 0 0, yv] 43)).heap[q]? := fun q hq hne => Y6.block q hq (fun e => hne e.symm)
 have hlow : ∀ q, q < hb0 + 1 -> ov.ownBlock ≠ some q := fun q hq e => by have := (hol q e).1; omega
 have r2' := (hB hb0 (by omega) (hlow _ (by omega))).trans bD
 have r0 := (hB w.heap.size (by omega) (hlow _ (by omega))).trans ((fq _ (by omega)).trans ((hB4 _ (by omega) (by omega)).trans HL.RI))
 have ro := (hB ob (by omega) (hlow _ (by omega))).trans ((fq _ (by omega)).trans ho4)
 have gs := Zv w6 hb0 4 (.slice (some ⟨g, 0, none⟩) (acc.length + 1) cap)
 have hS : ∀ q, q < w6.heap.size -> q ≠ hb0 -> (w6.setCell ⟨hb0, 4, none⟩ (.slice (some ⟨g, 0, none⟩) (acc.length + 1) cap)).heap[q]? = w6.heap[q]? := fun q hq hne => gs.block q hq (fun e => hne (Option.some.inj e))
 have hzs := gs.size
 have hC : ∀ q, q < (w4.alloc (.cells #[.int .i64 yo, .int .i64 yn, .string ys, .slice none 0 0, yv] 43)).heap.size -> hb0 + 1 <= q -> ov.ownBlock ≠ some q -> (w6.setCell ⟨hb0, 4, none⟩ (.slice (some ⟨g, 0, none⟩) (acc.length + 1) cap)).heap[q]? = (w4.alloc (.cells #[.int .i64 yo, .int .i64 yn, .string ys, .slice none 0 0, yv] 43)).heap[q]? := fun q hq hl hne => (hS q (by omega) (by omega)).trans (hB q hq hne)
 refine ⟨(Yh r2').2.2.2.2, Lib.frozen_of_heap r2' 4, ?_⟩
 refine ⟨(hS _ (by omega) (by omega)).trans r0, ZL (i := 4) r2' (.slice (some ⟨g, 0, none⟩) (acc.length + 1) cap), (hS _ (by omega) (by omega)).trans ro, h0, ?_, ?_, ?_, ?_, by rw [List.length_append, List.length_singleton, HL.len], by have := HL.sum; omega, by omega, hkl⟩
 ·rw [Oc, List.length_append, List.length_singleton]
  exact Zx hown6 gs (fun q hq e => by have := (Zw hown6 _ e).1; cases hq; omega)
 ·intro z hz'
  rcases List.mem_append.1 hz' with h | h
  ·exact (HL.kids z h).keep (by omega) (fun q hq hl hne => (hC q (by omega) hl hne).trans ((fq q (by omega)).trans (hB4 q hq (by omega)))) (Nat.le_refl _) (fun q hq hl hne e => by
    have e2 : g = q := Option.some.inj e; rcases hat with h | h
    ·exact hne (e2 ▸ h)
    ·omega)
  ·rw [List.mem_singleton.1 h]
   exact hi.keep (by omega) (fun q hq hl _ => (hC q (by omega) (by have : wr.heap.size <= q := hl; omega) (fun e => by have := (hol q e).2; have : wr.heap.size <= q := hl; omega)).trans (fq q hq)) (by show hb0 + 1 <= wr.heap.size; omega) (fun q hq hl _ e => by
    have e2 : g = q := Option.some.inj e; have : wr.heap.size <= q := hl; rcases hat with h | h
    ·have := (hol g h).2; omega
    ·omega)
 ·refine Rc (Rc (Rc HL.grown hD (fun q e => .inr (Option.some.inj e).symm)) Y6 (fun q e => ?_)) gs (fun q e => .inl (by have := Option.some.inj e; omega))
  have := (hol q e).1; exact .inl (by omega)
 ·rw [List.map_append, List.map_cons, List.map_nil, hs]; exact heq
theorem Kc (M : Nat -> Prop) (P : Zz) (d : Nat) (hd : d + 1 <= 400) (IH : nC M P d) (ob : Nat) (vy : Value) (v : ZT) (w : World) (left : Int) (hv : Wx M w vy v) (hg : VG P v) (ho : w.heap[ob]? = some (.cells #[.int .i64 left] 87 (0, 0))) (h0 : 0 < left) (h1 : left <= 20000) (h7 : v.op ≠ 7) :
 Calls Tryz.prog 32 #[.pointer (some ⟨ob, 0, none⟩), vy, .int .i64 ((d + 1 : Nat) : Int)] w (kG ob (Cc v (RB (UH d) v.l (left - 1) [])) w) := by
 have hw : IntKind.i64.wrap (left - 1) = left - 1 := YJ _ (by omega) (by omega)
 have hwd : IntKind.i64.wrap (((d + 1 : Nat) : Int) - 1) = (d : Int) := by rw [YJ _ (by omega) (by omega)]; omega
 have hops : v.op = 1 \/ v.op = 2 \/ v.op = 3 \/ v.op = 4 := by have := hg.ops; omega
 have hsr : Ig v.op = v.op := by unfold Ig; rw [Z7 h7]
 obtain ⟨vb, vl, vps, rfl, hb, jk, hrow, hrl, hrc, eZ⟩ := hv.open
 obtain ⟨va, vc, rfl, _⟩ := id hrow
 unfold Y9 at hb
 rw [hsr] at hb
 have g0 := Z8 w (.cells #[.int .i64 0, .int .i64 0, .string ⟨#[]⟩, .slice none 0 0, .slice none 0 0] 43)
 have ho1 := (g0.block ob (Z6 ho) (by nofun)).trans ho
 have c0 := (one_cell ho1).1
 have fz := Lib.frozen_of_heap ho1 0
 have hnl : ¬ left - 1 < 0 := by omega
 have hmm := @run_makeMap Tryz.prog
 have hdz : (((d + 1 : Nat) : Int) == 0) = false := by simp; omega
 obtain ⟨Q, hQ⟩ : ∃ Q, Cc v (RB (UH d) v.l (left - 1) []) = Q := ⟨_, rfl⟩
 rw [hQ]
 have HQ := Z9 hQ
 have HO := Z9 ho
 have HV := Z9 hv
 have HB := Z9 hb
 have SC := Z9 IH
 have HVG := Z9 hg
 have Wj := Z9 (And.intro hrow (And.intro hrl (And.intro hrc eZ)))
 have h5 : (v.op == 5) = false := by simp; omega
 obtain ⟨ii0, hii, TI, TH, TG⟩ := YQ Ou
 generalize hD1 : ((d + 1 : Nat) : Int) = D1 at *
 clear hv ho ho1 hb jk g0 hQ IH hg hrow hrl hrc eZ
 go_in
 go_upto_region 4 with fail
 obtain ⟨W, hW⟩ : ∃ W, (w.alloc (.cells #[.int .i64 0, .int .i64 0, .string ⟨#[]⟩, .slice none 0 0, .slice none 0 0] 43)).setCell ⟨ob, 0, none⟩ (.int .i64 (left - 1)) = W := ⟨_, rfl⟩
 have hF := Jy HO.out (.int .i64 (left - 1)) W hW.symm
 rw [hW]
 obtain ⟨hz, hr, AV, hgW⟩ := hF
 obtain ⟨w1, w2, w3, w4, w5, r1, r2, r3, r4, r5, hg5, QN⟩ := Et W
 have lk := QN v.op (by omega)
 rw [hsr] at lk
 have KP : W.grownBy w5 none := Al hg5
 have ach : W.heap.size < w5.heap.size := by have := hg5.size; simp at this; omega
 have hb5 := ((KP.block vb (by rw [hz]; have := Z6 HB.out; omega) (by nofun)).trans (hgW.block vb (Z6 HB.out) (fun e => by
  have e := Option.some.inj e; have h1 := HB.out; rw [e, HO.out] at h1; exact absurd (Obj.cells.inj (Option.some.inj h1)).2.1 (by decide)))).trans HB.out
 obtain ⟨p0, p1, p2, p3⟩ := YV hb5
 rw [hz] at r1 r2 r3 r4 r5 lk
 have hr5 := (KP.block _ (Z6 hr) (by nofun)).trans hr
 have ho5 := (KP.block _ (Z6 AV) (by nofun)).trans AV
 have HG := Z9 (both hgW (YA KP _))
 have HB5 := Z9 hb5
 clear QN hg5 hgW hr AV c0 fz hW hb5 KP
 go_upto_region 5 with fail
 have n7 := Zn w5 (.cells #[.int .i64 v.op, .int .i64 0, .string ⟨#[]⟩, .slice none 0 0, .slice none 0 0] 43)
 have g7 := Z8 w5 (.cells #[.int .i64 v.op, .int .i64 0, .string ⟨#[]⟩, .slice none 0 0, .slice none 0 0] 43)
 have hr7 := (g7.block _ (Z6 hr5) (by nofun)).trans hr5
 have ho7 := (g7.block _ (Z6 ho5) (by nofun)).trans ho5
 obtain ⟨p0, p1, p2, p3⟩ := YV ((g7.block _ (Z6 HB5.out) (by nofun)).trans HB5.out)
 have aci := Z6 HB5.out
 generalize w5.alloc (.cells #[.int .i64 v.op, .int .i64 0, .string ⟨#[]⟩, .slice none 0 0, .slice none 0 0] 43) = A at *
 have f1 := Lib.frozen_of_heap n7 1
 have f2 := Lib.frozen_of_heap n7 2
 obtain ⟨o0, o1, o2, o3, o4⟩ := Yh n7
 go_wp2_with fail
 go_region
 go_wp2_with fail
 have HOL : Hid (bI M d w ob vb (.pointer (some ⟨vb, 0, none⟩)) v left 0 [] (left - 1) (.slice none 0 0) w5.heap.size ((A.setCell ⟨w5.heap.size, 1, none⟩ (.int .i64 v.n)).setCell ⟨w5.heap.size, 2, none⟩ (.string v.s)).drew) := Z9 (by
  have gs := both (both (Zv A w5.heap.size 1 (.int .i64 v.n)) (Zv _ w5.heap.size 2 (.string v.s))) (YA (Z4 _) _); have jM : w.heap.size < w5.heap.size := by omega
  have hlo := Z6 HO.out; have hl5 := Z6 ho5; refine ⟨(gs.block _ (Z6 hr7) (fun e => by have := Option.some.inj e; omega)).trans hr7, ZL (i := 2) (ZL (i := 1) n7 _) _, (gs.block _ (Z6 ho7) (fun e => by have := Option.some.inj e; omega)).trans ho7, jM, World.ownsRow_nil _ _ _ _, (fun _ h => by cases h), Rc (both HG.out (YA g7 _)) gs (fun q hq => by cases hq; left; omega), by rw [List.drop_zero]; rfl, rfl, by omega, by omega, Nat.zero_le _⟩)
 have hrl2 := Wj.out.2.1
 have hm63 : v.l.length <= 9223372036854775807 := by have := Wj.out.2.2.1; omega
 rw [hrl2] at *
 clear n7 g7 hr7 ho7 f1 f2 o0 o1 o2 o3 o4 p0 p1 p2 p3 HG lk r1 r2 r3 r4 r5
 generalize w5.heap.size = hb0 at HOL ⊢
 go_loopw [9, 56] (fun v9 v56 wr => ∃ (k : Nat) (acc : List Z0) (lk : Int) (ov : Value), v56 = .int .i64 k /\ Hid (bI M d w ob vb (.pointer (some ⟨vb, 0, none⟩)) v left k acc lk ov hb0 wr)) (fun _ v56 _ => v.l.length - (intOf v56).toNat)
 case atStart => exact ⟨0, [], left - 1, .slice none 0 0, rfl, HOL⟩
 case round =>
  obtain ⟨k, acc, lk, ov, rfl, HL⟩ := hrel; have hk := HL.out.le; have kJ := Z9 HL.out.len; have hsum := HL.out.sum; have hpos := HL.out.pos; have heq := HL.out.eq; by_cases hkl : k < v.l.length
  ·have hgd : w.grownBy wr.drew (some ob) := Rc HL.out.grown (Z4 wr) (by nofun)
   have hK := KQ (M := M) HO.out HL.out.grown; have hKd := KQ (M := M) HO.out hgd; obtain ⟨hrow, hrl, hrc, eZ⟩ := Wj.out; obtain ⟨b, off, c', hsl, _, l0⟩ := Sk (hrow.kept hK) k (by rw [hrl]; exact hkl); obtain ⟨rfl, _, rfl⟩ := Value.slice.inj hsl; have hym := (eZ k hkl).kept hKd; have hgk := HVG.out.all _ (Zr default v.l k hkl); rw [kF default v.l k hkl, RB] at heq; generalize v.l.getD k default = yy at *; generalize vps.getD k undef = py at *; have hb2 := Cb d yy lk hpos; have HC := Z9 (SC.out ob py yy wr.drew lk hym hgk HL.out.obc hpos (by omega)); generalize UH d yy lk = r2 at *; obtain ⟨oa, oc, rfl⟩ := Yg HL.out.own; have c4 := (Yh HL.out.Ib).2.2.2.2; have hkn : (k : Int) < ((v.l.length : Nat) : Int) := by omega
   have W9 := Z9 heq; have eY := Z9 hgd; have Kr : Hid (acc.length + 1 <= maxLen /\ (acc.length + 1) * 80 <= 140737488355328) := Z9 (by have := kJ.out; refine ⟨by unfold maxLen; omega, by omega⟩); have hwk : IntKind.i64.wrap ((k : Int) + 1) = ((k + 1 : Nat) : Int) := by rw [YJ _ (by omega) (by omega)]; omega
   clear hsl hym hgk heq hgd hrow hrl hrc eZ hK hKd; by_cases hn : r2.2 < 0
   ·have hq := W9.out
    rw [ZY hn] at hq; have hQ := HQ.out; rw [<- hq] at hQ; have hQ2 : (default, -1) = Q := hQ; subst hQ2; have eX := Z9 (fun (w4 : World) (h : wr.drew.grownBy w4 (some ob)) => show kG ob (default, -1) w (.panicked (Wn 2 2)) w4 from (ZY (by decide)).mpr ⟨rfl, Rc eY.out h (fun q e => .inr (Option.some.inj e).symm)⟩); clear hq hQ; go_upto_region 11 with fail; refine XG (S := fun _ => True) (by kernel_rfl) True.intro (fun hHeld => ?_); refine tks (b := ?_) (by kernel_rfl) (fun _ _ _ _ _ h => h) True.intro 5 [0, 2, 3, 4, 5] (by kernel_rfl) ?_ ?_; rotate_left
    ·iterate 5 (refine yc (v := ?_) rfl rfl (by rfl) (fun w9 hSw => ?_) ?_; rotate_left; (focus go_simp; try rfl); simp only [Act.put, Zj, Zi, Zh])
     exact rfl
    refine wpAnyH_ready (rs := [1, 6]) (by kernel_rfl) (by simp) (AllReadyH.cons (by rfl) (fun K hK => ?aaH) (AllReadyH.cons (by rfl) (fun K hK => ?aaI) (AllReadyH.nil)))
    case aaH =>
     go_simp; refine hK.out _ _ True.intro (fun _ => ?_); clear hK K; refine rd1 6 (by kernel_rfl) rfl fun K hK => ?_
     go_simp; go_at_call 32; refine HC.out.mono ?_; intro e w4 hR; obtain ⟨rfl, hg2⟩ := (ZY hn).mp hR; exact ⟨rfl, eX.out w4 hg2⟩
    case aaI =>
     go_simp; go_at_call 32; refine HC.out.mono ?_; intro e w4 hR; obtain ⟨rfl, hg2⟩ := (ZY hn).mp hR; exact ⟨rfl, eX.out w4 hg2⟩
   ·have hq := W9.out
    rw [Z7 hn] at hq; have eU := Z9 (fun (w4 : World) (yv : Value) (yo yn : Int) (ys : ByteArray) (yl : List Z0) (hs : ZW (.mk yo yn ys yv yl) = r2.1) (hi : Pm wr.drew.heap.size none w4 (.mk yo yn ys yv yl)) (hg : wr.drew.grownBy w4 (some ob)) (ho4 : w4.heap[ob]? = some (.cells #[.int .i64 r2.2] 87 (0, 0))) => yE (Z6 HO.out) HL.out hkl hb2.2 hn hq hs hi hg ho4); clear hq; go_upto_region 11 with fail; refine XG (S := fun _ => True) (by kernel_rfl) True.intro (fun hHeld => ?_); refine tks (b := ?_) (by kernel_rfl) (fun _ _ _ _ _ h => h) True.intro 5 [0, 2, 3, 4, 5] (by kernel_rfl) ?_ ?_; rotate_left
    ·iterate 5 (refine yc (v := ?_) rfl rfl (by rfl) (fun w9 hSw => ?_) ?_; rotate_left; (focus go_simp; try rfl); simp only [Act.put, Zj, Zi, Zh])
     exact rfl
    refine wpAnyH_ready (rs := [1, 6]) (by kernel_rfl) (by simp) (AllReadyH.cons (by rfl) (fun K hK => ?aaJ) (AllReadyH.cons (by rfl) (fun K hK => ?aaK) (AllReadyH.nil)))
    case aaJ =>
     go_simp; refine hK.out _ _ True.intro (fun _ => ?_); clear hK K; refine rd1 6 (by kernel_rfl) rfl fun K hK => ?_
     go_simp; go_at_call 32; refine HC.out.mono ?_; intro e w4 hR; obtain ⟨⟨yo, yn, ys, yv, yl⟩, rfl, hs2, hi2, hg2, tu⟩ := (Z7 hn).mp hR; obtain ⟨ya, yq, rfl, _⟩ := hi2.parts.1; simp only [ZN, Z0.op, Z0.n, Z0.s, Z0.lv]; have HF := Z9 (eU.out _ _ _ _ _ _ hs2 hi2 hg2 tu); have k4 := HF.out.1; have kD := HF.out.2.1; clear hs2 hi2 hg2 tu hR; refine hK.out _ _ True.intro (fun _ => ?_); clear hK K; refine rd1 7 (by kernel_rfl) rfl fun K hK => ?_
     go_simp; refine hK.out _ _ True.intro (fun _ => ?_); clear hK K; refine rd1 8 (by kernel_rfl) rfl fun K hK => ?_
     refine step_append_lies _ rfl (.tmp 61) (.tmp 67) 41 rfl (hb0 + 1) 43 ii0 (.agg #[.int .i64 0, .int .i64 0, .string ⟨#[]⟩, .slice none 0 0, .slice none 0 0]) 5 80 Tryz.underlying41 hii TI TH TG rfl (by decide) (.slice oa acc.length oc) acc.length (X7 acc) (by simp [Act.eval]) HF.out.2.2.1 ⟨w4.heap.size, 0, none⟩ 1 1 [.int .i64 yo, .int .i64 yn, .string ys, .slice none 0 0, .slice ya yl.length yq] (by simp [Act.eval]) rfl (World.news_of_block (cs := #[.int .i64 yo, .int .i64 yn, .string ys, .slice none 0 0, .slice ya yl.length yq]) (show _ = _ from ZV w4 _)) (List.all_eq_true.1 (show [Value.int .i64 yo, .int .i64 yn, .string ys, .slice none 0 0, .slice ya yl.length yq].all (·.oneCell') = true from rfl)) (by decide) Kr.out.1 Kr.out.2 HF.out.2.2.2.1 _ rfl ?_; intro g cap w6 hown6 Y6 Sz Ot; have HP := Z9 (HF.out.2.2.2.2 g cap w6 hown6 Y6 Sz); have k6 := HP.out.1; have f6 := HP.out.2.1; clear hown6 Y6 Sz Ot; refine hK.out _ _ True.intro (fun _ => ?_); clear hK K; refine tks (b := ?_) (by kernel_rfl) (fun _ _ _ _ _ h => h) True.intro 1 [9] (by kernel_rfl) ?_ ?_; rotate_left
     ·refine yc (v := ?_) rfl rfl (by rfl) (fun w9 hSw => ?_) ?_; rotate_left; (focus go_simp; try rfl); simp only [Act.put, Zj, Zi, Zh]
      exact rfl
     refine rd1 10 (by kernel_rfl) rfl fun K hK => ?_
     go_simp; refine hK.out _ _ True.intro (fun _ => ?_); clear hK K; refine X3 (by kernel_rfl) ?_ _; have Ca := Z9 HP.out.2.2; clear k6 f6; go_wp2_with fail; go_roundw
     case rel => exact ⟨k + 1, _, r2.2, _, by go_num, Ca⟩
     case measure => simp [intOf]; omega
    case aaK =>
     go_simp; go_at_call 32; refine HC.out.mono ?_; intro e w4 hR; obtain ⟨⟨yo, yn, ys, yv, yl⟩, rfl, hs2, hi2, hg2, tu⟩ := (Z7 hn).mp hR; obtain ⟨ya, yq, rfl, _⟩ := hi2.parts.1; simp only [ZN, Z0.op, Z0.n, Z0.s, Z0.lv]; have HF := Z9 (eU.out _ _ _ _ _ _ hs2 hi2 hg2 tu); have k4 := HF.out.1; have kD := HF.out.2.1; clear hs2 hi2 hg2 tu hR; refine hK.out _ _ True.intro (fun _ => ?_); clear hK K; refine wpAnyH_ready (rs := [1, 7]) (by kernel_rfl) (by simp) (AllReadyH.cons (by rfl) (fun K hK => ?aaL) (AllReadyH.cons (by rfl) (fun K hK => ?aaM) (AllReadyH.nil)))
     case aaL =>
      go_simp; refine hK.out _ _ True.intro (fun _ => ?_); clear hK K; refine rd1 7 (by kernel_rfl) rfl fun K hK => ?_
      go_simp; refine hK.out _ _ True.intro (fun _ => ?_); clear hK K; refine rd1 8 (by kernel_rfl) rfl fun K hK => ?_
      refine step_append_lies _ rfl (.tmp 61) (.tmp 67) 41 rfl (hb0 + 1) 43 ii0 (.agg #[.int .i64 0, .int .i64 0, .string ⟨#[]⟩, .slice none 0 0, .slice none 0 0]) 5 80 Tryz.underlying41 hii TI TH TG rfl (by decide) (.slice oa acc.length oc) acc.length (X7 acc) (by simp [Act.eval]) HF.out.2.2.1 ⟨w4.heap.size, 0, none⟩ 1 1 [.int .i64 yo, .int .i64 yn, .string ys, .slice none 0 0, .slice ya yl.length yq] (by simp [Act.eval]) rfl (World.news_of_block (cs := #[.int .i64 yo, .int .i64 yn, .string ys, .slice none 0 0, .slice ya yl.length yq]) (show _ = _ from ZV w4 _)) (List.all_eq_true.1 (show [Value.int .i64 yo, .int .i64 yn, .string ys, .slice none 0 0, .slice ya yl.length yq].all (·.oneCell') = true from rfl)) (by decide) Kr.out.1 Kr.out.2 HF.out.2.2.2.1 _ rfl ?_; intro g cap w6 hown6 Y6 Sz Ot; have HP := Z9 (HF.out.2.2.2.2 g cap w6 hown6 Y6 Sz); have k6 := HP.out.1; have f6 := HP.out.2.1; clear hown6 Y6 Sz Ot; refine hK.out _ _ True.intro (fun _ => ?_); clear hK K; refine tks (b := ?_) (by kernel_rfl) (fun _ _ _ _ _ h => h) True.intro 1 [9] (by kernel_rfl) ?_ ?_; rotate_left
      ·refine yc (v := ?_) rfl rfl (by rfl) (fun w9 hSw => ?_) ?_; rotate_left; (focus go_simp; try rfl); simp only [Act.put, Zj, Zi, Zh]
       exact rfl
      refine rd1 10 (by kernel_rfl) rfl fun K hK => ?_
      go_simp; refine hK.out _ _ True.intro (fun _ => ?_); clear hK K; refine X3 (by kernel_rfl) ?_ _; have Ca := Z9 HP.out.2.2; clear k6 f6; go_wp2_with fail; go_roundw
      case rel => exact ⟨k + 1, _, r2.2, _, by go_num, Ca⟩
      case measure => simp [intOf]; omega
     case aaM =>
      go_simp; refine hK.out _ _ True.intro (fun _ => ?_); clear hK K; refine rd1 1 (by kernel_rfl) rfl fun K hK => ?_
      go_simp; refine hK.out _ _ True.intro (fun _ => ?_); clear hK K; refine rd1 8 (by kernel_rfl) rfl fun K hK => ?_
      refine step_append_lies _ rfl (.tmp 61) (.tmp 67) 41 rfl (hb0 + 1) 43 ii0 (.agg #[.int .i64 0, .int .i64 0, .string ⟨#[]⟩, .slice none 0 0, .slice none 0 0]) 5 80 Tryz.underlying41 hii TI TH TG rfl (by decide) (.slice oa acc.length oc) acc.length (X7 acc) (by simp [Act.eval]) HF.out.2.2.1 ⟨w4.heap.size, 0, none⟩ 1 1 [.int .i64 yo, .int .i64 yn, .string ys, .slice none 0 0, .slice ya yl.length yq] (by simp [Act.eval]) rfl (World.news_of_block (cs := #[.int .i64 yo, .int .i64 yn, .string ys, .slice none 0 0, .slice ya yl.length yq]) (show _ = _ from ZV w4 _)) (List.all_eq_true.1 (show [Value.int .i64 yo, .int .i64 yn, .string ys, .slice none 0 0, .slice ya yl.length yq].all (·.oneCell') = true from rfl)) (by decide) Kr.out.1 Kr.out.2 HF.out.2.2.2.1 _ rfl ?_; intro g cap w6 hown6 Y6 Sz Ot; have HP := Z9 (HF.out.2.2.2.2 g cap w6 hown6 Y6 Sz); have k6 := HP.out.1; have f6 := HP.out.2.1; clear hown6 Y6 Sz Ot; refine hK.out _ _ True.intro (fun _ => ?_); clear hK K; refine tks (b := ?_) (by kernel_rfl) (fun _ _ _ _ _ h => h) True.intro 1 [9] (by kernel_rfl) ?_ ?_; rotate_left
      ·refine yc (v := ?_) rfl rfl (by rfl) (fun w9 hSw => ?_) ?_; rotate_left; (focus go_simp; try rfl); simp only [Act.put, Zj, Zi, Zh]
       exact rfl
      refine rd1 10 (by kernel_rfl) rfl fun K hK => ?_
      go_simp; refine hK.out _ _ True.intro (fun _ => ?_); clear hK K; refine X3 (by kernel_rfl) ?_ _; have Ca := Z9 HP.out.2.2; clear k6 f6; go_wp2_with fail; go_roundw
      case rel => exact ⟨k + 1, _, r2.2, _, by go_num, Ca⟩
      case measure => simp [intOf]; omega
  ·obtain rfl : k = v.l.length := by omega
   rw [List.drop_length, RB] at heq; have hQ := HQ.out; rw [<- heq] at hQ; have hlk : ¬ lk < 0 := by omega
   unfold Cc at hQ; simp only [hlk, if_false] at hQ; subst hQ; have n1 := HL.out.RI; have n8 := HL.out.Ib; obtain ⟨oa, oc, rfl⟩ := Yg HL.out.own; have hkn : ¬ ((v.l.length : Nat) : Int) < ((v.l.length : Nat) : Int) := by omega
   clear heq; go_wp2_with (first
    | (refine VF rfl 43 _ rfl hb0 rfl 43 _ (0, 0) _ n8 Tryz.underlying43 rfl YT ?_)
    | (refine Zc rfl 43 _ _ rfl w.heap.size #[.int .i64 v.op, .int .i64 v.n, .string v.s, .slice none 0 0, .slice oa acc.length oc] rfl rfl 43 _ n1 YT rfl (ZO _ rfl) ?_))
   have q2 := Zd _ _ _ #[.int .i64 v.op, .int .i64 v.n, .string v.s, .slice none 0 0, .slice oa acc.length oc] _ _ n1; have h0b := HL.out.hbw; have acj := Z6 HO.out; have hset : ∀ q, hb0 + 1 <= q -> (wr.setRow w.heap.size #[.int .i64 v.op, .int .i64 v.n, .string v.s, .slice none 0 0, .slice oa acc.length oc]).heap[q]? = wr.heap[q]? := fun q hq => WM _ _ _ _ (by omega)
   refine Y4 (YC rfl _ _ w.heap.size 43 #[.int .i64 v.op, .int .i64 v.n, .string v.s, .slice none 0 0, .slice oa acc.length oc] (0, 0) _ rfl q2 Tryz.underlying43 rfl YT) rfl (Aj (.mk v.op v.n v.s (.slice oa acc.length oc) acc) hpos (by rw [Y2, XZ]) (.mk ?_ (by have := kJ.out; have := Wj.out.2.2.1; omega) (fun z hz => ?_)) (Ak HL.out.grown) ((WM _ _ _ _ (by omega)).trans HL.out.obc))
   ·exact (KR (r := none) HL.out.own (Nat.le_refl _) (fun h e => h e.symm)).keep (by rw [setRow_size]; exact Nat.le_refl _) (fun q _ hl _ => hset q hl) (by omega) (fun q _ _ h => h)
   ·exact (HL.out.kids z hz).keep (by rw [setRow_size]; exact Nat.le_refl _) (fun q _ hl _ => hset q hl) (by omega) (fun q _ _ _ => by nofun)
end Go.Proofs.YtbcfdebdikgijaaGreatDoor
namespace Go.Proofs.YtbcfdebdikgijaaGreatDoor
open Go Go.RowKit
theorem Ai (M : Nat -> Prop) (P : Zz) : ∀ d : Nat, d <= 400 -> nC M P d
 | 0, _ => fun ob vy v w left hv _ ho h0 h1 => PY ob vy left _ w ho h0 h1 (.inr rfl)
 | d + 1, hd => fun ob vy v w left hv hg ho h0 h1 => by
   rw [UH]; by_cases hl : left <= 0
   ·rw [ZY hl]
    exact PY ob vy left _ w ho h0 h1 (.inl hl)
   rw [Z7 hl]; by_cases h7 : v.op = 7
   ·rw [ZY h7]
    exact Ia ob vy v left _ w hv h7 ho (by omega) h1 (by omega)
   rw [Z7 h7]; exact Kc M P d hd (Ai M P d (by omega)) ob vy v w left hv hg ho (by omega) h1 h7
end Go.Proofs.YtbcfdebdikgijaaGreatDoor
