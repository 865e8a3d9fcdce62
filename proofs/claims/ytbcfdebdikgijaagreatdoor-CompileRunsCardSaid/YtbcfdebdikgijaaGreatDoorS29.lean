/- Part of the proof; its texts: Rw3 Rw4 Rw6. -/
import Derived.Test.YtbcfdebdikgijaaGreatDoorS24
set_option maxRecDepth 100000
set_option linter.unusedVariables false
set_option linter.unusedSimpArgs false
set_option maxHeartbeats 2000000
namespace Go.Proofs.YtbcfdebdikgijaaGreatDoor
open Go Go.RowKit
theorem kC {α : Type} (d : α) (l : List α) (k : Nat) (h : k < l.length) : l.drop k = l.getD k d :: l.drop (k + 1) := by
 rw [List.drop_eq_getElem_cons h]; simp [List.getD, List.getElem?_eq_getElem h]
theorem Em.new {wb : Nat} {a b c : World} {r s : Option Nat} {g : Option Nat} (h : Em wb a b r s) (k : b.grownBy c g) (hg : ∀ q, g = some q -> a.heap.size <= q) : Em wb a c r s :=
 ⟨k.os.trans h.os, k.tape.trans h.tape, k.output.trans h.output, Nat.le_trans h.size k.size, fun q hq hw hr => (k.block q (Nat.lt_of_lt_of_le hq h.size) (fun e => by have := hg q e.symm; omega)).trans (h.kept q hq hw hr), h.own⟩
theorem RZ.keep {V V' : World} {mb : Nat} {fv : Value} {fuel : Int} {st : Xa} {ov : Value} {g : Option Nat} (h : RZ V mb fv fuel st ov) (hg : V.grownBy V' g) (h1 : g ≠ some mb) (h2 : ∀ q, g = some q -> ov.ownBlock ≠ some q) : RZ V' mb fv fuel st ov :=
 ⟨(hg.block mb (Z6 h.blk) h1.symm).trans h.blk, Zx h.own hg (fun q hq e => h2 q hq e)⟩
theorem RZ.cells {V : World} {mb : Nat} {fv : Value} {fuel : Int} {st : Xa} {ov : Value} (h : RZ V mb fv fuel st ov) : V.cell? ⟨mb, 0, none⟩ = some fv /\ V.cell? ⟨mb, 1, none⟩ = some (.int .i64 fuel) /\ V.cell? ⟨mb, 2, none⟩ = some (.int .i64 st.steps) /\ V.cell? ⟨mb, 3, none⟩ = some ov := YV h.blk
theorem RZ.tick {V : World} {mb : Nat} {fv : Value} {fuel : Int} {st : Xa} {ov : Value} (h : RZ V mb fv fuel st ov) : RZ (V.setCell ⟨mb, 2, none⟩ (.int .i64 (st.steps + 1))) mb fv fuel st.tick ov :=
 ⟨ZL (i := 2) h.blk _, Zx h.own (Zv V mb 2 _) (fun q hq e => by cases hq; have := (Zw h.own _ e).1; omega)⟩
theorem RZ.below {V V' : World} {mb B : Nat} {fv : Value} {fuel : Int} {st : Xa} {ov : Value} {r' : Option Nat} (h : RZ V mb fv fuel st ov) (g : Em mb V V' ov.ownBlock r') (hB : B <= mb) : Below B V V' :=
 ⟨g.os, g.tape, g.output, g.size, fun q hq => g.kept q (by have := Z6 h.blk; omega) (by omega) (fun e => by have := (Zw h.own _ e).1; omega)⟩
structure Hyp (P : Zz) (fl : List ZJ) (fe : Int) (B : Nat) (M : Nat -> Prop) (mb : Nat) (fv : Value) (k : Nat) (me : ZT) (loc : List ZT) (st : Xa) (ov : Value) (w : World) : Prop where
 Jw : Xh B w fv fl
 lo : B <= mb
 m0 : ∀ b, M b -> b < w.heap.size
 Vd : RZ w mb fv fe st ov
 hfn : Fn P fl k me
 ME : ∀ y ∈ loc, VG P y
 le : st.steps <= fe
 len : (loc.length : Int) <= st.steps + 1
 s0 : 0 <= st.steps
 out : st.out.length <= 1000
 tab : Pv w
 gB : 0 < B
 l1 : 0 < loc.length
theorem Hyp.step {P : Zz} {fl : List ZJ} {fe : Int} {B : Nat} {M : Nat -> Prop} {mb : Nat} {fv : Value} {k : Nat} {self : ZT} {loc : List ZT} {st st' : Xa} {ov QZ : Value} {w w' : World} (h : Hyp P fl fe B M mb fv k self loc st ov w) (g : Em mb w w' ov.ownBlock QZ.ownBlock) (hm : RZ w' mb fv fe st' QZ) (ho : Nn fe st.steps st') : Hyp P fl fe B M mb fv k self loc st' QZ w' :=
 ⟨h.Jw.under (h.Vd.below g h.lo), h.lo, fun b hb => Nat.lt_of_lt_of_le (h.m0 b hb) g.size, hm, h.hfn, h.ME, ho.2.1, by have := ho.1; have := h.len; omega, by have := ho.1; have := h.s0; omega, ho.2.2, h.tab.below (h.Vd.below g h.lo) h.gB, h.gB, h.l1⟩
theorem Hyp.free {P : Zz} {fl : List ZJ} {fe : Int} {B : Nat} {M : Nat -> Prop} {mb : Nat} {fv : Value} {k : Nat} {self : ZT} {loc : List ZT} {st : Xa} {ov : Value} {w w' : World} (h : Hyp P fl fe B M mb fv k self loc st ov w) (hg : w.grownBy w' none) : Hyp P fl fe B M mb fv k self loc st ov w' :=
 h.step (Em.free hg) (h.Vd.free hg) ⟨Int.le_refl _, h.le, h.out⟩
theorem Hyp.more {P : Zz} {fl : List ZJ} {fe : Int} {B : Nat} {M M' : Nat -> Prop} {mb : Nat} {fv : Value} {k : Nat} {self : ZT} {loc : List ZT} {st : Xa} {ov : Value} {w : World} (h : Hyp P fl fe B M mb fv k self loc st ov w) (hm : ∀ b, M' b -> b < w.heap.size) : Hyp P fl fe B M' mb fv k self loc st ov w := ⟨h.Jw, h.lo, hm, h.Vd, h.hfn, h.ME, h.le, h.len, h.s0, h.out, h.tab, h.gB, h.l1⟩
def VW (P : Zz) (fl : List ZJ) (fe : Int) (B g : Nat) : Prop :=
 ∀ (M : Nat -> Prop) (mb : Nat) (fv : Value) (k : Nat) (self : ZT) (loc : List ZT) (st : Xa) (ov : Value) (w : World) (x : Z0) (fb : Nat) (sv lv : Value) (ps : List Value),
  Hyp P fl fe B M mb fv k self loc st ov w -> Yk M w fb sv lv ps self loc -> Y0 B w x -> ZI (fl.getD k default).caps (YM fl) loc.length x = true -> (∀ s ∈ YK x, s ∈ P.texts) -> fe - st.steps < g ->
  Calls Tryz.prog 61 #[.pointer (some ⟨mb, 0, none⟩), Ws x, .pointer (some ⟨fb, 0, none⟩)] w (WG mb fv fe w ov (Y1 fl fe g x self loc st) fun v y w' => Wx M w' y v)
def Q6 (M : Nat -> Prop) (w : World) (y : Value) (vs : List ZT) : Prop := ∃ ps, Oe M w y ps /\ ps.length = vs.length /\ ∀ i, i < vs.length -> Wx M w (ps.getD i undef) (vs.getD i default)
theorem yC {wr wx w2 : World} {B mb n : Nat} {v : Value} {xs : List Value} {fv : Value} {fuel : Int} {st : Xa} {ov : Value} {r' : Option Nat} (h : wr.ownsRow B 79 1 v n xs) (hg : wr.grownBy wx none) (g : Em mb wx w2 ov.ownBlock r') (hm : RZ wr mb fv fuel st ov) : w2.ownsRow B 79 1 v n xs := by
 have h2 := Zx h hg (by nofun)
 obtain ⟨h1, h3⟩ := h2
 refine ⟨h1, ?_⟩
 rcases h3 with h3 | ⟨q, cap, cur, rfl, hb, hh, hrest⟩
 ·exact .inl h3
 ·refine .inr ⟨q, cap, cur, rfl, hb, ?_, hrest⟩
  exact ((hm.free hg).Od (M := fun _ => False) g q cur _ (.inr (.inl rfl)) hh (fun h => h)).trans hh
structure Jv (P : Zz) (fl : List ZJ) (fe : Int) (B g : Nat) (M : Nat -> Prop) (mb : Nat) (fv : Value) (k : Nat) (me : ZT) (loc : List ZT) (st0 : Xa) (ov0 : Value) (w0 : World) (l : List Z0) (r : WR (List ZT)) (i : Nat) (jF : Value) (acc : List ZT) (ps : List Value) (st : Xa) (ov : Value) (wr : World) : Prop where
 hyp : Hyp P fl fe B M mb fv k me loc st ov wr
 em : Em mb w0 wr ov0.ownBlock ov.ownBlock
 own : wr.ownsRow w0.heap.size 79 1 jF acc.length ps
 pl : ps.length = acc.length
 kids : ∀ j, j < acc.length -> Wx (fun b => M b \/ jF.ownBlock = some b) wr (ps.getD j undef) (acc.getD j default)
 al : acc.length = i
 eq : Vw (Sy (fun x st => Y1 fl fe g x me loc st) (l.drop i) st) (fun vs st => .ok (acc ++ vs) st) = r
 ok : Nn fe st0.steps st
theorem sZ {α : Type} (r : WR α) : Vw r (fun v st => .ok v st) = r := by cases r <;> rfl
theorem pF {V : World} {B : Nat} {e : TypeId} {s n : Nat} {v : Value} {xs : List Value} (h : V.ownsRow B e s v n xs) (g : Nat) (hg : v.ownBlock = some g) : B <= g /\ g < V.heap.size := Zw h g hg
theorem Es : (Tryz.prog.info? 79).map (fun i => (i.zero, i.size, i.bytes)) = some (some (.pointer none), 1, 8) := by kernel_rfl
theorem KN {M : Nat -> Prop} {w : World} {B n : Nat} {v : Value} {ps : List Value} (h : w.ownsRow B 79 1 v n ps) (hn : ps.length = n) (hM : ∀ b, M b -> b < B) : Oe M w v ps := by
 subst hn
 obtain ⟨_, ⟨rfl, h0⟩ | ⟨q, cap, cur, rfl, hb, hh, h1, _⟩⟩ := id h
 ·rw [List.eq_nil_of_length_eq_zero h0]; exact rowP_nil M w
 ·refine ⟨some ⟨q, 0, none⟩, cap, rfl, h1, (fun e => by cases e), fun _ => ⟨q, 0, cur, rfl, fun e => by have := hM q e; omega, hh, fun j hj => ?_⟩⟩
  have := h.cells rfl j _ (List.getElem?_eq_getElem hj); rw [Addr.add_lit] at this; rw [this]; simp [List.getD, List.getElem?_eq_getElem hj]
theorem pE {P : Zz} {fl : List ZJ} {fe : Int} {B g : Nat} {M : Nat -> Prop} {mb : Nat} {fv : Value} {k : Nat} {self : ZT} {loc : List ZT} {st0 : Xa} {ov0 : Value} {w0 : World} {l : List Z0} {r : WR (List ZT)} {jF : Value} {acc : List ZT} {ps : List Value} {st : Xa} {ov : Value} {wr : World}
 (h : Jv P fl fe B g M mb fv k self loc st0 ov0 w0 l r l.length jF acc ps st ov wr) (hm : ∀ b, M b -> b < w0.heap.size) : WG mb fv fe w0 ov0 r (fun vs y w' => Q6 M w' y vs) (.returned jF) wr := by
 have e := h.eq
 rw [List.drop_length, Sy] at e
 subst e
 refine ⟨ov, h.em, h.hyp.Vd, jF, rfl, ps, ?_, by rw [h.pl, List.append_nil], fun i hi => ?_⟩
 ·exact KN h.own h.pl hm
 ·rw [List.append_nil] at hi ⊢
  exact (h.kids i hi).less fun b hb => .inl hb
theorem sV {M : Nat -> Prop} {w w' : World} {r : Option Nat} (g : w.grownBy w' r) (h : ∀ q, r = some q -> M q) : Sl M w w' := fun b _ _ _ hb hm => g.block b (Z6 hb) (fun e => hm (h b e.symm))
theorem BX {r : WR (List ZT)} {acc : List ZT} {v : ZT} : Vw (Vw r fun vs st => .ok (v :: vs) st) (fun vs st => .ok (acc ++ vs) st) = Vw r (fun vs st => .ok ((acc ++ [v]) ++ vs) st) := by
 cases r with
 | ok vs st => show WR.ok (acc ++ v :: vs) st = WR.ok ((acc ++ [v]) ++ vs) st; rw [List.append_assoc]; rfl
 | stop o n st => rfl
theorem sU {P : Zz} {fl : List ZJ} {fe : Int} {B g : Nat} {M : Nat -> Prop} {mb : Nat} {fv : Value} {k : Nat} {self : ZT} {loc : List ZT} {st0 : Xa} {ov0 : Value} {w0 : World} {l : List Z0} {r : WR (List ZT)} {i : Nat} {u : Value} {acc : List ZT} {qs : List Value} {st1 st2 : Xa} {ov1 ov2 : Value} {wr wx w2 w6 : World} {v : ZT} {yb q cap : Nat}
 (H0 : Hyp P fl fe B M mb fv k self loc st0 ov0 w0) (HA : Jv P fl fe B g M mb fv k self loc st0 ov0 w0 l r i u acc qs st1 ov1 wr) (HW : wr.grownBy wx none) (HE2 : Em mb wx w2 ov1.ownBlock ov2.ownBlock) (HM2 : RZ w2 mb fv fe st2 ov2) (HY : Wx (fun b => M b \/ u.ownBlock = some b) w2 (.pointer (some ⟨yb, 0, none⟩)) v)
 (HO2 : w2.ownsRow w0.heap.size 79 1 u acc.length qs) (HK : Nn fe st1.steps st2) (HQ : Vw (Vw (Sy (fun x st => Y1 fl fe g x self loc st) (l.drop (i + 1)) st2) fun vs st => .ok (v :: vs) st) (fun vs st => .ok (acc ++ vs) st) = r)
 (hown6 : w6.ownsRow w0.heap.size 79 1 (.slice (some ⟨q, 0, none⟩) (acc.length + 1) cap) (acc.length + 1) (qs ++ [.pointer (some ⟨yb, 0, none⟩)])) (Y6 : (w2.alloc (.cells #[.pointer (some ⟨yb, 0, none⟩)] 79)).grownBy w6 u.ownBlock) (Sz : u.ownBlock = some q \/ q = (w2.alloc (.cells #[.pointer (some ⟨yb, 0, none⟩)] 79)).heap.size) :
 Jv P fl fe B g M mb fv k self loc st0 ov0 w0 l r (i + 1) (.slice (some ⟨q, 0, none⟩) (acc.length + 1) cap) (acc ++ [v]) (qs ++ [.pointer (some ⟨yb, 0, none⟩)]) st2 ov2 w6 := by
 have hcur := Zw HA.own
 have g3 := Z8 w2 (.cells #[.pointer (some ⟨yb, 0, none⟩)] 79)
 generalize w2.alloc (.cells #[.pointer (some ⟨yb, 0, none⟩)] 79) = w3 at *
 have hmb := Z6 H0.Vd.blk
 have em2 := (HA.em.trans (Em.free HW)).trans HE2
 have em6 := (em2.new g3 (by nofun)).new Y6 (fun q hq => (hcur q hq).1)
 have hm6 : RZ w6 mb fv fe st2 ov2 := (HM2.free g3).keep Y6 (fun e => by have := (hcur mb e).1; omega) (fun b hb e => by
  obtain ⟨c1, h1⟩ := XP HO2 b hb; obtain ⟨c2, h2⟩ := XP HM2.own b e; rw [h1] at h2; exact absurd (Obj.cells.inj (Option.some.inj h2)).2.1 (by decide))
 have hok : Nn fe st0.steps st2 := ⟨by have := HA.ok.1; have := HK.1; omega, HK.2.1, HK.2.2⟩
 have tr : ∀ {a : Value} {x : ZT}, Wx (fun b => M b \/ u.ownBlock = some b) w3 a x -> Wx (fun b => M b \/ (Value.slice (some ⟨q, 0, none⟩) (acc.length + 1) cap).ownBlock = some b) w6 a x := fun {a x} h =>
  ((h.more (M' := fun b => (M b \/ u.ownBlock = some b) \/ b = q) fun b hb => by
    rcases hb with hb | hb
    ·exact .inl hb
    ·subst hb
     rcases Sz with e | e
     ·exact .inl (.inr e)
     ·right; omega).kept (sV Y6 fun q hq => .inl (.inr hq))).less fun b hb => by
    rcases hb with hb | hb
    ·exact .inl (.inl hb)
    ·right; exact (Option.some.inj hb).symm
 have kw : Sl (fun b => M b \/ u.ownBlock = some b) wr w3 := ((YS HW).trans ((HA.hyp.Vd.free HW).Od HE2)).trans (YS g3)
 refine ⟨H0.step em6 hm6 hok, em6, by rw [List.length_append, List.length_singleton]; exact hown6, by rw [List.length_append, List.length_append, HA.pl]; rfl, fun j hj => ?_, by rw [List.length_append, HA.al]; rfl, BX.symm.trans HQ, hok⟩
 rw [List.length_append, List.length_singleton] at hj
 by_cases h : j < acc.length
 ·have e1 : (qs ++ [Value.pointer (some ⟨yb, 0, none⟩)]).getD j undef = qs.getD j undef := by simp [List.getD, List.getElem?_append_left (show j < qs.length by rw [HA.pl]; exact h)]
  have e2 : (acc ++ [v]).getD j default = acc.getD j default := by simp [List.getD, List.getElem?_append_left h]
  rw [e1, e2]; exact tr ((HA.kids j h).kept kw)
 ·obtain rfl : j = acc.length := by omega
  have e1 : (qs ++ [Value.pointer (some ⟨yb, 0, none⟩)]).getD acc.length undef = .pointer (some ⟨yb, 0, none⟩) := by rw [<- HA.pl]; simp
  have e2 : (acc ++ [v]).getD acc.length default = v := by simp
  rw [e1, e2]; exact tr (HY.kept (YS g3))
theorem Vg {P : Zz} {fl : List ZJ} {fe : Int} {B g : Nat} (hP : Ctx P fl) (HE : VW P fl fe B g) (M : Nat -> Prop) (mb : Nat) (fv : Value) (k : Nat) (self : ZT) (loc : List ZT) (st : Xa) (ov : Value) (w : World) (fb : Nat) (sv lv : Value) (ps : List Value) (l : List Z0) (a : Option Addr) (c : Nat)
 (hH : Hyp P fl fe B M mb fv k self loc st ov w) (hF : Yk M w fb sv lv ps self loc) (hR : Uu B w (.slice a l.length c) l.length (ZR l)) (hl : l.length <= 1001) (hX : ∀ y ∈ l, Y0 B w y) (hf : ∀ y ∈ l, ZI (fl.getD k default).caps (YM fl) loc.length y = true) (ht : ∀ s ∈ YW l, s ∈ P.texts) (hg : fe - st.steps < g) :
 Calls Tryz.prog 86 #[.pointer (some ⟨mb, 0, none⟩), .slice a l.length c, .pointer (some ⟨fb, 0, none⟩)] w (WG mb fv fe w ov (Sy (fun x st => Y1 fl fe g x self loc st) l st) fun vs y w' => Q6 M w' y vs) := by
 obtain ⟨r, hr⟩ : ∃ r, Sy (fun x st => Y1 fl fe g x self loc st) l st = r := ⟨_, rfl⟩
 rw [hr]
 have HM := Z9 hH.m0
 have H0 := Z9 hH
 have HF := Z9 hF
 have HR := Z9 hR
 have HX := Z9 hX
 have Hf := Z9 hf
 have HT := Z9 ht
 have HG := Z9 hg
 have bH := Z9 HE
 have HCT := Z9 hP
 have HL := Z9 hl
 have hS : Hid (Jv P fl fe B g M mb fv k self loc st ov w l r 0 (.slice none 0 0) [] [] st ov w) := Z9 ⟨hH, Em.refl .., World.ownsRow_nil _ _ _ _, rfl, fun j hj => by simp at hj, rfl, by rw [List.drop_zero, hr]; exact sZ r, ⟨Int.le_refl _, hH.le, hH.out⟩⟩
 have hm' : l.length <= 9223372036854775807 := by omega
 obtain ⟨ii0, hii, TI, TH, TG⟩ := info_parts Es
 clear hH hF hR hX hf ht hg HE hP hr
 go_in
 go_wp2_with fail
 go_loopw [7, 12] (fun v7 v12 wr => ∃ (i : Nat) (acc : List ZT) (ps : List Value) (st' : Xa) (QZ : Value), v12 = .int .i64 i /\ i <= l.length /\ Hid (Jv P fl fe B g M mb fv k self loc st ov w l r i v7 acc ps st' QZ wr)) (fun _ v12 _ => l.length - (intOf v12).toNat)
 case atStart => exact ⟨0, [], [], st, ov, rfl, Nat.zero_le _, hS⟩
 case round =>
  obtain ⟨i, acc, qs, st1, ov1, rfl, hi, HA⟩ := hrel; have AX := H0.out.Vd.below HA.out.em H0.out.lo; by_cases hil : i < l.length
  ·obtain ⟨b, off, rfl, Rx, c0, c1, c2, c3⟩ := XY HR.out AX i hil
   have hmem := Zr default l i hil; have hyk := (HX.out _ hmem).under AX; have R4 := Hf.out _ hmem; have htk : ∀ s ∈ YK (l.getD i default), s ∈ P.texts := fun s hs => HT.out s (Uh hmem hs)
   have heq := HA.out.eq; rw [kC default l i hil, Sy] at heq; clear hmem; generalize l.getD i default = x at *; have hkeep := Wm HCT.out g x k self loc st1 (fe := fe) HA.out.hyp.hfn HA.out.hyp.ME R4 htk HA.out.hyp.le HA.out.hyp.out; have hgrow := HA.out.ok; have hcur := pF HA.out.own; have KA : ∀ wx, wr.grownBy wx none -> Yk (fun b => M b \/ u7.ownBlock = some b) wx fb sv lv ps self loc := fun wx hgx =>
    ((HF.out.more fun b hb => hb.elim .inl fun e => .inr (hcur b e).1).kept (H0.out.Vd.Od HA.out.em)).kept (YS hgx)
   obtain ⟨xo, xn, xs, xv, xl⟩ := x; obtain ⟨xa, xc, rfl, _⟩ := hyk.parts.1; simp only [Z0.op, Z0.n, Z0.s, Z0.lv] at c0 c1 c2 c3; have hgw := Z8 wr (.cells #[.int .i64 xo, .int .i64 xn, .string xs, .slice xa xl.length xc] 36); have gX := ZV wr (.cells #[.int .i64 xo, .int .i64 xn, .string xs, .slice xa xl.length xc] 36); obtain ⟨e0, e1, e2, e3⟩ := ZP gX; have hC := bH.out (fun b => M b \/ u7.ownBlock = some b) mb fv k self loc st1 ov1 _ _ fb sv lv ps ((HA.out.hyp.free hgw).more fun b hb => by
    have := hgw.size; rcases hb with hb | hb
    ·have := HA.out.hyp.m0 b hb; omega
    ·have := (hcur b hb).2; omega) (KA _ hgw) (hyk.under (ZX hgw (by have := Z6 HA.out.hyp.Vd.blk; have := HA.out.hyp.lo; omega) (by nofun))) R4 htk (by have := hgrow.1; have := HG.out; omega)
   rw [ZE] at hC; have HW := Z9 hgw; have HK0 := Z9 hkeep; have W9 := Z9 heq; have acn := Z9 hcur; cases hE : Y1 fl fe g (.mk xo xn xs (.slice xa xl.length xc) xl) self loc st1 with
   | stop o n st2 =>
     rw [hE] at hC; have HC := Z9 hC; have hq := W9.out; rw [hE] at hq; have HQ : Hid (WR.stop o n st2 = r) := hq; clear hq hC KA hyk R4 htk hkeep heq hcur hgrow hE gX hgw AX; go_wp2_with fail; refine HC.out.mono ?_; rintro e w2 ⟨ov2, hE2, hM2, rfl⟩; refine ⟨rfl, ov2, (HA.out.em.trans (Em.free HW.out)).trans hE2, ?_⟩; rw [<- HQ.out]; exact ⟨hM2, rfl⟩
   | ok v st2 =>
     rw [hE] at hC; have HC := Z9 hC; have hq := W9.out; rw [hE] at hq hkeep; have HQ : Hid (Vw (Vw (Sy (fun x st => Y1 fl fe g x self loc st) (l.drop (i + 1)) st2) fun vs st => .ok (v :: vs) st) (fun vs st => .ok (acc ++ vs) st) = r) := hq; have pz : Hid (VG P v /\ Nn fe st1.steps st2) := hkeep; clear hq hC KA hyk R4 htk hkeep heq hcur hgrow hE gX hgw AX HK0 W9; go_wp2_with (first
      | (refine HC.out.mono ?_; rintro e w2 ⟨ov2, hE2, hM2, y, rfl, hy⟩; obtain ⟨yb, _, _, rfl, _⟩ := id hy.open; have HE2 := Z9 hE2; have HM2 := Z9 hM2; have HY := Z9 hy; have HO2 := Z9 (yC HA.out.own HW.out hE2 HA.out.hyp.Vd); clear hE2 hM2 hy)
      | (refine Ie rfl _ rfl _ rfl ?_)
      | (at_builtin; refine wpList_append_lies _ rfl _ _ 81 rfl w.heap.size 79 ii0 (.pointer none) 1 8 Tryz.underlying81 hii TI TH TG rfl (by decide) _ acc.length qs rfl (HO2.out.alloc _) ⟨w2.heap.size, 0, none⟩ 1 1 [.pointer (some ⟨yb, 0, none⟩)] rfl rfl ?c1 ?c2 (by decide) ?c3 ?c4 ?c5 _ rfl ?_))
     case c1 => exact World.news_of_block (cs := #[.pointer (some ⟨yb, 0, none⟩)]) (ZV w2 _)
     case c2 => simp [Value.oneCell']
     case c3 => have := HA.out.al; unfold maxLen; omega
     case c4 => have := HA.out.al; omega
     case c5 => have := HE2.out.size; have := HW.out.size; have := HA.out.em.size; simp; omega
     intro q cap w6 hown6 Y6 Sz Ot; have HN : Hid (Jv P fl fe B g M mb fv k self loc st ov w l r (i + 1) (.slice (some ⟨q, 0, none⟩) (acc.length + 1) cap) (acc ++ [v]) (qs ++ [.pointer (some ⟨yb, 0, none⟩)]) st2 ov2 w6) :=
      Z9 (sU H0.out HA.out HW.out HE2.out HM2.out HY.out HO2.out pz.out.2 HQ.out hown6 Y6 (Sz.imp id fun e => by rw [e]; simp))
     clear hown6 Y6 Sz Ot; have hwk : IntKind.i64.wrap ((i : Int) + 1) = ((i + 1 : Nat) : Int) := by rw [YJ _ (by omega) (by omega)]; omega
     go_wp2_with fail; go_roundw
     case rel => exact ⟨i + 1, _, _, st2, ov2, by go_num, by omega, HN⟩
     case measure => simp [intOf]; omega
  ·obtain rfl : i = l.length := by omega
   have hE := Z9 (pE HA.out HM.out); clear AX; go_wp2; go_ret; exact hE.out
theorem RZ.hold {V V' : World} {mb : Nat} {fv : Value} {fuel : Int} {st : Xa} {ov : Value} {r' : Option Nat} (h : RZ V mb fv fuel st ov) (g : Em mb V V' ov.ownBlock r') {b : Nat} {cur : Array Value} {t : TypeId} (hb : V.heap[b]? = some (.cells cur t (0, 0))) (h1 : t ≠ 9) (h2 : t ≠ 75) : V'.heap[b]? = some (.cells cur t (0, 0)) := by
 refine (g.kept b (Z6 hb) (fun e => ?_) (fun e => ?_)).trans hb
 ·rw [e, h.blk] at hb
  exact h2 (Obj.cells.inj (Option.some.inj hb)).2.1.symm
 ·obtain ⟨cur', hc⟩ := XP h.own b e
  rw [hc] at hb; exact h1 (Obj.cells.inj (Option.some.inj hb)).2.1.symm
section
variable {P : Zz} {fl : List ZJ} {fe : Int} {B g : Nat}
theorem Er (HE : VW P fl fe B g) (M : Nat -> Prop) (mb : Nat) (fv : Value) (k : Nat) (self : ZT) (loc : List ZT) (st : Xa) (ov : Value) (w : World) (x : Z0) (fb : Nat) (sv lv : Value) (ps : List Value) (vy : Value) (v : ZT)
 (hH : Hyp P fl fe B M mb fv k self loc st ov w) (hF : Yk M w fb sv lv ps self loc) (hV : Wx M w vy v) (jG : VG P v) (hX : Y0 B w x) (hf : ZI (fl.getD k default).caps (YM fl) (loc.length + 1) x = true) (ht : ∀ s ∈ YK x, s ∈ P.texts) (hg : fe - st.steps < g) (hlen : (loc.length : Int) + 1 <= st.steps + 1)
 (W : World) (hgW : w.grownBy W none) (w3 : World) (hg3 : W.grownBy w3 none) (v' : Value) (hown : w3.ownsRow W.heap.size 79 1 v' (ps.length + 1) (ps ++ [vy])) (wx : World) (bG : Nat) (hgx : w3.grownBy wx none) (Ll : wx.heap[bG]? = some (.cells #[sv, v'] 129 (0, 0))) (hnew : w.heap.size <= bG) :
 Calls Tryz.prog 61 #[.pointer (some ⟨mb, 0, none⟩), Ws x, .pointer (some ⟨bG, 0, none⟩)] wx (WG mb fv fe wx ov (Y1 fl fe g x self (loc ++ [v]) st) fun v y w' => Wx M w' y v) := by
 have hgr := both (both hgW hg3) hgx
 have ku := hH.free hgr
 have hk := YS (M := M) hgr
 have hlt := Z6 hH.Vd.blk
 have hrow := KN (M := M) hown (by rw [List.length_append]; rfl) (fun b hb => Nat.lt_of_lt_of_le (hH.m0 b hb) hgW.size)
 have hC := HE M mb fv k self (loc ++ [v]) st ov wx x bG sv v' (ps ++ [vy])
  ⟨ku.Jw, ku.lo, ku.m0, ku.Vd, ku.hfn, QD hH.ME jG, hH.le, by rw [Vh]; exact hlen, hH.s0, hH.out, ku.tab, ku.gB, by simp⟩
  ⟨Ll, fun h => by have := hH.m0 _ h; omega, hF.fn.kept hk, hrow.kept (YS hgx), by rw [List.length_append, List.length_append, hF.len]; rfl, fun i hi => by
    rw [List.length_append, List.length_singleton] at hi; by_cases h : i < loc.length
    ·have e1 : (ps ++ [vy]).getD i undef = ps.getD i undef := by simp [List.getD, List.getElem?_append_left (show i < ps.length by rw [hF.len]; exact h)]
     have e2 : (loc ++ [v]).getD i default = loc.getD i default := by simp [List.getD, List.getElem?_append_left h]
     rw [e1, e2]; exact (hF.all i h).kept hk
    ·obtain rfl : i = loc.length := by omega
     have e1 : (ps ++ [vy]).getD loc.length undef = vy := by rw [<- hF.len]; simp
     have e2 : (loc ++ [v]).getD loc.length default = v := by simp
     rw [e1, e2]; exact hV.kept hk⟩
  (hX.under (hH.Vd.below (Em.free (r := ov.ownBlock) hgr) hH.lo)) (by rw [Vh]; exact hf) ht hg
 exact hC
theorem MO (HE : VW P fl fe B g) (hfe : fe <= 1048576) (M : Nat -> Prop) (mb : Nat) (fv : Value) (k : Nat) (self : ZT) (loc : List ZT) (st : Xa) (ov : Value) (w : World) (x : Z0) (fb : Nat) (sv lv : Value) (ps : List Value) (vy : Value) (v : ZT)
 (hH : Hyp P fl fe B M mb fv k self loc st ov w) (hF : Yk M w fb sv lv ps self loc) (hV : Wx M w vy v) (jG : VG P v) (hX : Y0 B w x) (hf : ZI (fl.getD k default).caps (YM fl) (loc.length + 1) x = true) (ht : ∀ s ∈ YK x, s ∈ P.texts) (hg : fe - st.steps < g) (hlen : (loc.length : Int) + 1 <= st.steps + 1) :
 Calls Tryz.prog 88 #[.pointer (some ⟨mb, 0, none⟩), Ws x, .pointer (some ⟨fb, 0, none⟩), vy] w (WG mb fv fe w ov (Y1 fl fe g x self (loc ++ [v]) st) fun v y w' => Wx M w' y v) := by
 have eP := Z9 (Er HE M mb fv k self loc st ov w x fb sv lv ps vy v hH hF hV jG hX hf ht hg hlen)
 obtain ⟨vb, _, _, rfl, _⟩ := hV.open
 obtain ⟨sb, _, _, rfl, _⟩ := hF.fn.open
 have HR := Z9 hF.row
 obtain ⟨la, lc, rfl, hlc, hln, hlr⟩ := hF.row
 obtain ⟨lb, lo, cur, rfl, _, hlb, sS⟩ := hlr (by rw [hF.len]; exact hH.l1)
 have hFb := hF.blk
 have hpl := hF.len
 have hle := hH.le
 generalize Y1 fl fe g x self (loc ++ [v]) st = r at *
 obtain ⟨xo, xn, xs, xv, xl⟩ := x
 obtain ⟨xa, xc, rfl, _⟩ := hX.parts.1
 rw [ZE] at eP ⊢
 obtain ⟨ii0, hii, TI, TH, TG⟩ := info_parts Es
 have hs63 : ps.length + 1 <= maxLen /\ (ps.length + 1) * 8 <= 140737488355328 := by unfold maxLen; omega
 have g1 := Z8 w (.cells #[.int .i64 xo, .int .i64 xn, .string xs, .slice xa xl.length xc] 36)
 have n1 := ZV w (.cells #[.int .i64 xo, .int .i64 xn, .string xs, .slice xa xl.length xc] 36)
 have aaN := (g1.block _ (Z6 hFb) (by nofun)).trans hFb
 have aaO := (g1.block _ (Z6 hlb) (by nofun)).trans hlb
 have HB := Z9 (And.intro aaN aaO)
 have bF := Z9 sS
 have HLT := Z9 (Z6 hlb)
 have HG1 := Z9 g1
 have HS := Z9 hs63
 have bC := Z9 hH.Vd
 clear hH hF hV jG hX hf ht hg hlen hFb hlb HE hlr sS hs63 hpl hle
 cases r with
 | ok v2 st2 =>
   go_in; go_upto_region 1 with fail; generalize w.alloc (.cells #[.int .i64 xo, .int .i64 xn, .string xs, .slice xa xl.length xc] 36) = W at *; obtain ⟨e0, e1, e2, e3⟩ := ZP n1; have q0 : W.cell? ⟨fb, 0, none⟩ = some (.pointer (some ⟨sb, 0, none⟩)) := by simp [World.cell?, HB.out.1]
   have q1 : W.cell? ⟨fb, 1, none⟩ = some (.slice (some ⟨lb, lo, none⟩) ps.length lc) := by simp [World.cell?, HB.out.1]
   have La := Z9 (fun (j : Nat) (u : Value) (hu : ps[j]? = some u) => show (W.alloc (.cells #[.pointer (some ⟨vb, 0, none⟩)] 79)).drew.cell? ((⟨lb, lo, none⟩ : Addr).add j) = some u from by
    have hj := (List.getElem?_eq_some_iff.1 hu).1; have h1 := bF.out j hj; have h2 : (W.alloc (.cells #[.pointer (some ⟨vb, 0, none⟩)] 79)).drew.heap[lb]? = w.heap[lb]? := ((Z8 W (.cells #[.pointer (some ⟨vb, 0, none⟩)] 79)).block lb (Z6 HB.out.2) (by nofun)).trans (HG1.out.block lb (by have := HB.out.2; exact HLT.out) (by nofun)); rw [Addr.add_lit]; unfold World.cell? at h1 ⊢; rw [h2, h1]; simp [List.getD, hu])
   have s0 : W.drew.cell? ⟨w.heap.size, 0, none⟩ = some (.int .i64 xo) /\ W.drew.cell? ⟨w.heap.size, 1, none⟩ = some (.int .i64 xn) /\ W.drew.cell? ⟨w.heap.size, 2, none⟩ = some (.string xs) /\ W.drew.cell? ⟨w.heap.size, 3, none⟩ = some (.slice xa xl.length xc) /\ W.drew.cell? ⟨fb, 0, none⟩ = some (.pointer (some ⟨sb, 0, none⟩)) /\ W.drew.cell? ⟨fb, 1, none⟩ = some (.slice (some ⟨lb, lo, none⟩) ps.length lc) := ⟨e0, e1, e2, e3, q0, q1⟩; have s1 : (W.alloc (.cells #[.pointer (some ⟨vb, 0, none⟩)] 79)).drew.cell? ⟨w.heap.size, 0, none⟩ = some (.int .i64 xo) /\ (W.alloc (.cells #[.pointer (some ⟨vb, 0, none⟩)] 79)).drew.cell? ⟨w.heap.size, 1, none⟩ = some (.int .i64 xn) /\ (W.alloc (.cells #[.pointer (some ⟨vb, 0, none⟩)] 79)).drew.cell? ⟨w.heap.size, 2, none⟩ = some (.string xs) /\ (W.alloc (.cells #[.pointer (some ⟨vb, 0, none⟩)] 79)).drew.cell? ⟨w.heap.size, 3, none⟩ = some (.slice xa xl.length xc) /\ (W.alloc (.cells #[.pointer (some ⟨vb, 0, none⟩)] 79)).drew.cell? ⟨fb, 0, none⟩ = some (.pointer (some ⟨sb, 0, none⟩)) /\ (W.alloc (.cells #[.pointer (some ⟨vb, 0, none⟩)] 79)).drew.cell? ⟨fb, 1, none⟩ = some (.slice (some ⟨lb, lo, none⟩) ps.length lc) := ⟨Z5 e0 _, Z5 e1 _, Z5 e2 _, Z5 e3 _, Z5 q0 _, Z5 q1 _⟩; have pq := Z9 (fun (w3 : World) (hgrow : (W.alloc (.cells #[.pointer (some ⟨vb, 0, none⟩)] 79)).drew.grownBy w3 none) => show w3.cell? ⟨w.heap.size, 0, none⟩ = some (.int .i64 xo) /\ w3.cell? ⟨w.heap.size, 1, none⟩ = some (.int .i64 xn) /\ w3.cell? ⟨w.heap.size, 2, none⟩ = some (.string xs) /\ w3.cell? ⟨w.heap.size, 3, none⟩ = some (.slice xa xl.length xc) /\ w3.cell? ⟨fb, 0, none⟩ = some (.pointer (some ⟨sb, 0, none⟩)) /\ w3.cell? ⟨fb, 1, none⟩ = some (.slice (some ⟨lb, lo, none⟩) ps.length lc) from ⟨cell_grown s1.1 hgrow, cell_grown s1.2.1 hgrow, cell_grown s1.2.2.1 hgrow, cell_grown s1.2.2.2.1 hgrow, cell_grown s1.2.2.2.2.1 hgrow, cell_grown s1.2.2.2.2.2 hgrow⟩); have eO := both HG1.out (both (Z8 W (.cells #[.pointer (some ⟨vb, 0, none⟩)] 79)) (Z4 _)); have yB := Z9 eO; have Pq := Z9 (And.intro n1 HB.out.1); clear n1 HR bF e0 e1 e2 e3 q0 q1 eO; refine XG (S := (fun w9 => w9.cell? ⟨w.heap.size, 0, none⟩ = some (.int .i64 xo) /\ w9.cell? ⟨w.heap.size, 1, none⟩ = some (.int .i64 xn) /\ w9.cell? ⟨w.heap.size, 2, none⟩ = some (.string xs) /\ w9.cell? ⟨w.heap.size, 3, none⟩ = some (.slice xa xl.length xc) /\ w9.cell? ⟨fb, 0, none⟩ = some (.pointer (some ⟨sb, 0, none⟩)) /\ w9.cell? ⟨fb, 1, none⟩ = some (.slice (some ⟨lb, lo, none⟩) ps.length lc))) (by kernel_rfl) s0 (fun hHeld => ?_); refine tks (b := ?_) (by kernel_rfl) (fun _ _ _ _ _ h => h) s0 11 [0, 1, 2, 3, 4, 5, 6, 7, 8, 9, 11] (by kernel_rfl) ?_ ?_; rotate_left
   ·iterate 11 (refine yc (v := ?_) rfl rfl (by rfl) (fun w9 hSw => ?_) ?_; rotate_left; (focus go_simp; try rfl); simp only [Act.put, Zj, Zi, Zh])
    exact rfl
   refine wpAnyH_ready (rs := [10, 12]) (by kernel_rfl) (by simp) (AllReadyH.cons (by rfl) (fun K hK => ?eH) (AllReadyH.cons (by rfl) (fun K hK => ?eG) (AllReadyH.nil)))
   case eH =>
    go_simp; go_at_call 100; refine (Qk ⟨lb, lo, none⟩ ps.length lc hlc _).mono ?_; rintro e w' ⟨rfl, rfl⟩; refine hK.out _ _ s0 (fun _ => ?_); clear hK K; refine rd1 12 (by kernel_rfl) rfl fun K hK => ?_
    go_simp; refine hK.out _ _ s1 (fun _ => ?_); clear hK K; refine rd1 13 (by kernel_rfl) rfl fun K hK => ?_
    refine step_append_grows rfl (.tmp 19) (.tmp 21) 81 rfl 79 ii0 (.pointer none) 1 8 Tryz.underlying81 hii TI TH TG rfl (by decide) (some ⟨lb, lo, none⟩) ps.length ps.length ps (by simp [Act.eval]) (by nofun) (by rw [Nat.mul_one]) (fun b hb j u hu => by cases hb; exact La.out j u hu) ⟨W.heap.size, 0, none⟩ 1 1 [.pointer (some ⟨vb, 0, none⟩)] (by simp [Act.eval]) rfl (World.news_of_block (cs := #[.pointer (some ⟨vb, 0, none⟩)]) (show _ = _ from ZV W _)) (fun u hu => by simp at hu; subst hu; rfl) (Nat.lt_succ_self _) HS.out.1 HS.out.2 ?_; intro v' w3 hown hgrow; obtain ⟨q, cap, rfl, hq1, hq2⟩ := hown.form (Nat.succ_pos _); have HX := Z9 (eP.out _ yB.out w3 hgrow _ hown _ _ (Z8 w3 (.cells #[.pointer (some ⟨sb, 0, none⟩), .slice (some ⟨q, 0, none⟩) (ps.length + 1) cap] 129)) (ZV w3 _) (by have h1 := yB.out.size; have h3 := hgrow.size; omega)); have sQ := Z9 (both (both yB.out hgrow) (Z8 w3 (.cells #[.pointer (some ⟨sb, 0, none⟩), .slice (some ⟨q, 0, none⟩) (ps.length + 1) cap] 129))); have s2 := pq.out w3 hgrow; have s3 := pq.out (w3.alloc (.cells #[.pointer (some ⟨sb, 0, none⟩), .slice (some ⟨q, 0, none⟩) (ps.length + 1) cap] 129)) (both hgrow (Z8 _ _)); have BU := Z9 (And.intro (((both hgrow (Z8 w3 (.cells #[.pointer (some ⟨sb, 0, none⟩), .slice (some ⟨q, 0, none⟩) (ps.length + 1) cap] 129))).block _ (by have := Z6 Pq.out.1; simp; omega) (by nofun)).trans ((Below.heap_alloc _ _ _ (Z6 Pq.out.1)).trans Pq.out.1)) (((both hgrow (Z8 w3 (.cells #[.pointer (some ⟨sb, 0, none⟩), .slice (some ⟨q, 0, none⟩) (ps.length + 1) cap] 129))).block _ (by have := Z6 Pq.out.2; simp; omega) (by nofun)).trans ((Below.heap_alloc _ _ _ (Z6 Pq.out.2)).trans Pq.out.2))); clear hown hgrow hq1 hq2; refine hK.out _ _ s2 (fun _ => ?_); clear hK K; refine tks (b := ?_) (by kernel_rfl) (fun _ _ _ _ _ h => h) s2 1 [14] (by kernel_rfl) ?_ ?_; rotate_left
    ·refine yc (v := ?_) rfl rfl (by rfl) (fun w9 hSw => ?_) ?_; rotate_left; (focus go_simp; try rfl); simp only [Act.put, Zj, Zi, Zh]
     exact rfl
    refine rd1 15 (by kernel_rfl) rfl fun K hK => ?_
    go_simp; refine hK.out _ _ s3 (fun _ => ?_); clear hK K; refine rd1 16 (by kernel_rfl) rfl fun K hK => ?_
    go_simp; go_at_call 61; refine HX.out.mono ?_; rintro e w4 ⟨QZ, hE2, hM2, y, rfl, hK2⟩; have b1 := (bC.out.free sQ.out).hold hE2 BU.out.1 (by decide) (by decide); have b2 := (bC.out.free sQ.out).hold hE2 BU.out.2 (by decide) (by decide); obtain ⟨e0, e1, e2, e3⟩ := ZP b1; have s4 : w4.cell? ⟨w.heap.size, 0, none⟩ = some (.int .i64 xo) /\ w4.cell? ⟨w.heap.size, 1, none⟩ = some (.int .i64 xn) /\ w4.cell? ⟨w.heap.size, 2, none⟩ = some (.string xs) /\ w4.cell? ⟨w.heap.size, 3, none⟩ = some (.slice xa xl.length xc) /\ w4.cell? ⟨fb, 0, none⟩ = some (.pointer (some ⟨sb, 0, none⟩)) /\ w4.cell? ⟨fb, 1, none⟩ = some (.slice (some ⟨lb, lo, none⟩) ps.length lc) := ⟨e0, e1, e2, e3, by (simp only [World.cell?, b2]; rfl), by (simp only [World.cell?, b2]; rfl)⟩; refine hK.out _ _ s4 (fun _ => ?_); clear hK K; refine tks (b := ?_) (by kernel_rfl) (fun _ _ _ _ _ h => h) s4 1 [17] (by kernel_rfl) ?_ ?_; rotate_left
    ·refine yc (v := ?_) rfl rfl (by rfl) (fun w9 hSw => ?_) ?_; rotate_left; (focus go_simp; try rfl); simp only [Act.put, Zj, Zi, Zh]
     exact rfl
    refine X3 (by kernel_rfl) ?_ _; go_wp2; go_ret; exact ⟨QZ, (Em.free sQ.out).trans hE2, hM2, y, rfl, hK2⟩
   case eG =>
    go_simp; refine hK.out _ _ s1 (fun _ => ?_); clear hK K; refine rd1 10 (by kernel_rfl) rfl fun K hK => ?_
    go_simp; go_at_call 100; refine (Qk ⟨lb, lo, none⟩ ps.length lc hlc _).mono ?_; rintro e w' ⟨rfl, rfl⟩; refine hK.out _ _ s1 (fun _ => ?_); clear hK K; refine rd1 13 (by kernel_rfl) rfl fun K hK => ?_
    refine step_append_grows rfl (.tmp 19) (.tmp 21) 81 rfl 79 ii0 (.pointer none) 1 8 Tryz.underlying81 hii TI TH TG rfl (by decide) (some ⟨lb, lo, none⟩) ps.length ps.length ps (by simp [Act.eval]) (by nofun) (by rw [Nat.mul_one]) (fun b hb j u hu => by cases hb; exact La.out j u hu) ⟨W.heap.size, 0, none⟩ 1 1 [.pointer (some ⟨vb, 0, none⟩)] (by simp [Act.eval]) rfl (World.news_of_block (cs := #[.pointer (some ⟨vb, 0, none⟩)]) (show _ = _ from ZV W _)) (fun u hu => by simp at hu; subst hu; rfl) (Nat.lt_succ_self _) HS.out.1 HS.out.2 ?_; intro v' w3 hown hgrow; obtain ⟨q, cap, rfl, hq1, hq2⟩ := hown.form (Nat.succ_pos _); have HX := Z9 (eP.out _ yB.out w3 hgrow _ hown _ _ (Z8 w3 (.cells #[.pointer (some ⟨sb, 0, none⟩), .slice (some ⟨q, 0, none⟩) (ps.length + 1) cap] 129)) (ZV w3 _) (by have h1 := yB.out.size; have h3 := hgrow.size; omega)); have sQ := Z9 (both (both yB.out hgrow) (Z8 w3 (.cells #[.pointer (some ⟨sb, 0, none⟩), .slice (some ⟨q, 0, none⟩) (ps.length + 1) cap] 129))); have s2 := pq.out w3 hgrow; have s3 := pq.out (w3.alloc (.cells #[.pointer (some ⟨sb, 0, none⟩), .slice (some ⟨q, 0, none⟩) (ps.length + 1) cap] 129)) (both hgrow (Z8 _ _)); have BU := Z9 (And.intro (((both hgrow (Z8 w3 (.cells #[.pointer (some ⟨sb, 0, none⟩), .slice (some ⟨q, 0, none⟩) (ps.length + 1) cap] 129))).block _ (by have := Z6 Pq.out.1; simp; omega) (by nofun)).trans ((Below.heap_alloc _ _ _ (Z6 Pq.out.1)).trans Pq.out.1)) (((both hgrow (Z8 w3 (.cells #[.pointer (some ⟨sb, 0, none⟩), .slice (some ⟨q, 0, none⟩) (ps.length + 1) cap] 129))).block _ (by have := Z6 Pq.out.2; simp; omega) (by nofun)).trans ((Below.heap_alloc _ _ _ (Z6 Pq.out.2)).trans Pq.out.2))); clear hown hgrow hq1 hq2; refine hK.out _ _ s2 (fun _ => ?_); clear hK K; refine tks (b := ?_) (by kernel_rfl) (fun _ _ _ _ _ h => h) s2 1 [14] (by kernel_rfl) ?_ ?_; rotate_left
    ·refine yc (v := ?_) rfl rfl (by rfl) (fun w9 hSw => ?_) ?_; rotate_left; (focus go_simp; try rfl); simp only [Act.put, Zj, Zi, Zh]
     exact rfl
    refine rd1 15 (by kernel_rfl) rfl fun K hK => ?_
    go_simp; refine hK.out _ _ s3 (fun _ => ?_); clear hK K; refine rd1 16 (by kernel_rfl) rfl fun K hK => ?_
    go_simp; go_at_call 61; refine HX.out.mono ?_; rintro e w4 ⟨QZ, hE2, hM2, y, rfl, hK2⟩; have b1 := (bC.out.free sQ.out).hold hE2 BU.out.1 (by decide) (by decide); have b2 := (bC.out.free sQ.out).hold hE2 BU.out.2 (by decide) (by decide); obtain ⟨e0, e1, e2, e3⟩ := ZP b1; have s4 : w4.cell? ⟨w.heap.size, 0, none⟩ = some (.int .i64 xo) /\ w4.cell? ⟨w.heap.size, 1, none⟩ = some (.int .i64 xn) /\ w4.cell? ⟨w.heap.size, 2, none⟩ = some (.string xs) /\ w4.cell? ⟨w.heap.size, 3, none⟩ = some (.slice xa xl.length xc) /\ w4.cell? ⟨fb, 0, none⟩ = some (.pointer (some ⟨sb, 0, none⟩)) /\ w4.cell? ⟨fb, 1, none⟩ = some (.slice (some ⟨lb, lo, none⟩) ps.length lc) := ⟨e0, e1, e2, e3, by (simp only [World.cell?, b2]; rfl), by (simp only [World.cell?, b2]; rfl)⟩; refine hK.out _ _ s4 (fun _ => ?_); clear hK K; refine tks (b := ?_) (by kernel_rfl) (fun _ _ _ _ _ h => h) s4 1 [17] (by kernel_rfl) ?_ ?_; rotate_left
    ·refine yc (v := ?_) rfl rfl (by rfl) (fun w9 hSw => ?_) ?_; rotate_left; (focus go_simp; try rfl); simp only [Act.put, Zj, Zi, Zh]
     exact rfl
    refine X3 (by kernel_rfl) ?_ _; go_wp2; go_ret; exact ⟨QZ, (Em.free sQ.out).trans hE2, hM2, y, rfl, hK2⟩
 | stop o n st2 =>
   go_in; go_upto_region 1 with fail; generalize w.alloc (.cells #[.int .i64 xo, .int .i64 xn, .string xs, .slice xa xl.length xc] 36) = W at *; obtain ⟨e0, e1, e2, e3⟩ := ZP n1; have q0 : W.cell? ⟨fb, 0, none⟩ = some (.pointer (some ⟨sb, 0, none⟩)) := by simp [World.cell?, HB.out.1]
   have q1 : W.cell? ⟨fb, 1, none⟩ = some (.slice (some ⟨lb, lo, none⟩) ps.length lc) := by simp [World.cell?, HB.out.1]
   have La := Z9 (fun (j : Nat) (u : Value) (hu : ps[j]? = some u) => show (W.alloc (.cells #[.pointer (some ⟨vb, 0, none⟩)] 79)).drew.cell? ((⟨lb, lo, none⟩ : Addr).add j) = some u from by
    have hj := (List.getElem?_eq_some_iff.1 hu).1; have h1 := bF.out j hj; have h2 : (W.alloc (.cells #[.pointer (some ⟨vb, 0, none⟩)] 79)).drew.heap[lb]? = w.heap[lb]? := ((Z8 W (.cells #[.pointer (some ⟨vb, 0, none⟩)] 79)).block lb (Z6 HB.out.2) (by nofun)).trans (HG1.out.block lb (by have := HB.out.2; exact HLT.out) (by nofun)); rw [Addr.add_lit]; unfold World.cell? at h1 ⊢; rw [h2, h1]; simp [List.getD, hu])
   have s0 : W.drew.cell? ⟨w.heap.size, 0, none⟩ = some (.int .i64 xo) /\ W.drew.cell? ⟨w.heap.size, 1, none⟩ = some (.int .i64 xn) /\ W.drew.cell? ⟨w.heap.size, 2, none⟩ = some (.string xs) /\ W.drew.cell? ⟨w.heap.size, 3, none⟩ = some (.slice xa xl.length xc) /\ W.drew.cell? ⟨fb, 0, none⟩ = some (.pointer (some ⟨sb, 0, none⟩)) /\ W.drew.cell? ⟨fb, 1, none⟩ = some (.slice (some ⟨lb, lo, none⟩) ps.length lc) := ⟨e0, e1, e2, e3, q0, q1⟩; have s1 : (W.alloc (.cells #[.pointer (some ⟨vb, 0, none⟩)] 79)).drew.cell? ⟨w.heap.size, 0, none⟩ = some (.int .i64 xo) /\ (W.alloc (.cells #[.pointer (some ⟨vb, 0, none⟩)] 79)).drew.cell? ⟨w.heap.size, 1, none⟩ = some (.int .i64 xn) /\ (W.alloc (.cells #[.pointer (some ⟨vb, 0, none⟩)] 79)).drew.cell? ⟨w.heap.size, 2, none⟩ = some (.string xs) /\ (W.alloc (.cells #[.pointer (some ⟨vb, 0, none⟩)] 79)).drew.cell? ⟨w.heap.size, 3, none⟩ = some (.slice xa xl.length xc) /\ (W.alloc (.cells #[.pointer (some ⟨vb, 0, none⟩)] 79)).drew.cell? ⟨fb, 0, none⟩ = some (.pointer (some ⟨sb, 0, none⟩)) /\ (W.alloc (.cells #[.pointer (some ⟨vb, 0, none⟩)] 79)).drew.cell? ⟨fb, 1, none⟩ = some (.slice (some ⟨lb, lo, none⟩) ps.length lc) := ⟨Z5 e0 _, Z5 e1 _, Z5 e2 _, Z5 e3 _, Z5 q0 _, Z5 q1 _⟩; have pq := Z9 (fun (w3 : World) (hgrow : (W.alloc (.cells #[.pointer (some ⟨vb, 0, none⟩)] 79)).drew.grownBy w3 none) => show w3.cell? ⟨w.heap.size, 0, none⟩ = some (.int .i64 xo) /\ w3.cell? ⟨w.heap.size, 1, none⟩ = some (.int .i64 xn) /\ w3.cell? ⟨w.heap.size, 2, none⟩ = some (.string xs) /\ w3.cell? ⟨w.heap.size, 3, none⟩ = some (.slice xa xl.length xc) /\ w3.cell? ⟨fb, 0, none⟩ = some (.pointer (some ⟨sb, 0, none⟩)) /\ w3.cell? ⟨fb, 1, none⟩ = some (.slice (some ⟨lb, lo, none⟩) ps.length lc) from ⟨cell_grown s1.1 hgrow, cell_grown s1.2.1 hgrow, cell_grown s1.2.2.1 hgrow, cell_grown s1.2.2.2.1 hgrow, cell_grown s1.2.2.2.2.1 hgrow, cell_grown s1.2.2.2.2.2 hgrow⟩); have eO := both HG1.out (both (Z8 W (.cells #[.pointer (some ⟨vb, 0, none⟩)] 79)) (Z4 _)); have yB := Z9 eO; have Pq := Z9 (And.intro n1 HB.out.1); clear n1 HR bF e0 e1 e2 e3 q0 q1 eO; refine XG (S := (fun w9 => w9.cell? ⟨w.heap.size, 0, none⟩ = some (.int .i64 xo) /\ w9.cell? ⟨w.heap.size, 1, none⟩ = some (.int .i64 xn) /\ w9.cell? ⟨w.heap.size, 2, none⟩ = some (.string xs) /\ w9.cell? ⟨w.heap.size, 3, none⟩ = some (.slice xa xl.length xc) /\ w9.cell? ⟨fb, 0, none⟩ = some (.pointer (some ⟨sb, 0, none⟩)) /\ w9.cell? ⟨fb, 1, none⟩ = some (.slice (some ⟨lb, lo, none⟩) ps.length lc))) (by kernel_rfl) s0 (fun hHeld => ?_); refine tks (b := ?_) (by kernel_rfl) (fun _ _ _ _ _ h => h) s0 11 [0, 1, 2, 3, 4, 5, 6, 7, 8, 9, 11] (by kernel_rfl) ?_ ?_; rotate_left
   ·iterate 11 (refine yc (v := ?_) rfl rfl (by rfl) (fun w9 hSw => ?_) ?_; rotate_left; (focus go_simp; try rfl); simp only [Act.put, Zj, Zi, Zh])
    exact rfl
   refine wpAnyH_ready (rs := [10, 12]) (by kernel_rfl) (by simp) (AllReadyH.cons (by rfl) (fun K hK => ?kr) (AllReadyH.cons (by rfl) (fun K hK => ?ko) (AllReadyH.nil)))
   case kr =>
    go_simp; go_at_call 100; refine (Qk ⟨lb, lo, none⟩ ps.length lc hlc _).mono ?_; rintro e w' ⟨rfl, rfl⟩; refine hK.out _ _ s0 (fun _ => ?_); clear hK K; refine rd1 12 (by kernel_rfl) rfl fun K hK => ?_
    go_simp; refine hK.out _ _ s1 (fun _ => ?_); clear hK K; refine rd1 13 (by kernel_rfl) rfl fun K hK => ?_
    refine step_append_grows rfl (.tmp 19) (.tmp 21) 81 rfl 79 ii0 (.pointer none) 1 8 Tryz.underlying81 hii TI TH TG rfl (by decide) (some ⟨lb, lo, none⟩) ps.length ps.length ps (by simp [Act.eval]) (by nofun) (by rw [Nat.mul_one]) (fun b hb j u hu => by cases hb; exact La.out j u hu) ⟨W.heap.size, 0, none⟩ 1 1 [.pointer (some ⟨vb, 0, none⟩)] (by simp [Act.eval]) rfl (World.news_of_block (cs := #[.pointer (some ⟨vb, 0, none⟩)]) (show _ = _ from ZV W _)) (fun u hu => by simp at hu; subst hu; rfl) (Nat.lt_succ_self _) HS.out.1 HS.out.2 ?_; intro v' w3 hown hgrow; obtain ⟨q, cap, rfl, hq1, hq2⟩ := hown.form (Nat.succ_pos _); have HX := Z9 (eP.out _ yB.out w3 hgrow _ hown _ _ (Z8 w3 (.cells #[.pointer (some ⟨sb, 0, none⟩), .slice (some ⟨q, 0, none⟩) (ps.length + 1) cap] 129)) (ZV w3 _) (by have h1 := yB.out.size; have h3 := hgrow.size; omega)); have sQ := Z9 (both (both yB.out hgrow) (Z8 w3 (.cells #[.pointer (some ⟨sb, 0, none⟩), .slice (some ⟨q, 0, none⟩) (ps.length + 1) cap] 129))); have s2 := pq.out w3 hgrow; have s3 := pq.out (w3.alloc (.cells #[.pointer (some ⟨sb, 0, none⟩), .slice (some ⟨q, 0, none⟩) (ps.length + 1) cap] 129)) (both hgrow (Z8 _ _)); have BU := Z9 (And.intro (((both hgrow (Z8 w3 (.cells #[.pointer (some ⟨sb, 0, none⟩), .slice (some ⟨q, 0, none⟩) (ps.length + 1) cap] 129))).block _ (by have := Z6 Pq.out.1; simp; omega) (by nofun)).trans ((Below.heap_alloc _ _ _ (Z6 Pq.out.1)).trans Pq.out.1)) (((both hgrow (Z8 w3 (.cells #[.pointer (some ⟨sb, 0, none⟩), .slice (some ⟨q, 0, none⟩) (ps.length + 1) cap] 129))).block _ (by have := Z6 Pq.out.2; simp; omega) (by nofun)).trans ((Below.heap_alloc _ _ _ (Z6 Pq.out.2)).trans Pq.out.2))); clear hown hgrow hq1 hq2; refine hK.out _ _ s2 (fun _ => ?_); clear hK K; refine tks (b := ?_) (by kernel_rfl) (fun _ _ _ _ _ h => h) s2 1 [14] (by kernel_rfl) ?_ ?_; rotate_left
    ·refine yc (v := ?_) rfl rfl (by rfl) (fun w9 hSw => ?_) ?_; rotate_left; (focus go_simp; try rfl); simp only [Act.put, Zj, Zi, Zh]
     exact rfl
    refine rd1 15 (by kernel_rfl) rfl fun K hK => ?_
    go_simp; refine hK.out _ _ s3 (fun _ => ?_); clear hK K; refine rd1 16 (by kernel_rfl) rfl fun K hK => ?_
    go_simp; go_at_call 61; refine HX.out.mono ?_; rintro e w' ⟨QZ, hE2, hM2, rfl⟩; exact ⟨rfl, QZ, (Em.free sQ.out).trans hE2, hM2, rfl⟩
   case ko =>
    go_simp; refine hK.out _ _ s1 (fun _ => ?_); clear hK K; refine rd1 10 (by kernel_rfl) rfl fun K hK => ?_
    go_simp; go_at_call 100; refine (Qk ⟨lb, lo, none⟩ ps.length lc hlc _).mono ?_; rintro e w' ⟨rfl, rfl⟩; refine hK.out _ _ s1 (fun _ => ?_); clear hK K; refine rd1 13 (by kernel_rfl) rfl fun K hK => ?_
    refine step_append_grows rfl (.tmp 19) (.tmp 21) 81 rfl 79 ii0 (.pointer none) 1 8 Tryz.underlying81 hii TI TH TG rfl (by decide) (some ⟨lb, lo, none⟩) ps.length ps.length ps (by simp [Act.eval]) (by nofun) (by rw [Nat.mul_one]) (fun b hb j u hu => by cases hb; exact La.out j u hu) ⟨W.heap.size, 0, none⟩ 1 1 [.pointer (some ⟨vb, 0, none⟩)] (by simp [Act.eval]) rfl (World.news_of_block (cs := #[.pointer (some ⟨vb, 0, none⟩)]) (show _ = _ from ZV W _)) (fun u hu => by simp at hu; subst hu; rfl) (Nat.lt_succ_self _) HS.out.1 HS.out.2 ?_; intro v' w3 hown hgrow; obtain ⟨q, cap, rfl, hq1, hq2⟩ := hown.form (Nat.succ_pos _); have HX := Z9 (eP.out _ yB.out w3 hgrow _ hown _ _ (Z8 w3 (.cells #[.pointer (some ⟨sb, 0, none⟩), .slice (some ⟨q, 0, none⟩) (ps.length + 1) cap] 129)) (ZV w3 _) (by have h1 := yB.out.size; have h3 := hgrow.size; omega)); have sQ := Z9 (both (both yB.out hgrow) (Z8 w3 (.cells #[.pointer (some ⟨sb, 0, none⟩), .slice (some ⟨q, 0, none⟩) (ps.length + 1) cap] 129))); have s2 := pq.out w3 hgrow; have s3 := pq.out (w3.alloc (.cells #[.pointer (some ⟨sb, 0, none⟩), .slice (some ⟨q, 0, none⟩) (ps.length + 1) cap] 129)) (both hgrow (Z8 _ _)); have BU := Z9 (And.intro (((both hgrow (Z8 w3 (.cells #[.pointer (some ⟨sb, 0, none⟩), .slice (some ⟨q, 0, none⟩) (ps.length + 1) cap] 129))).block _ (by have := Z6 Pq.out.1; simp; omega) (by nofun)).trans ((Below.heap_alloc _ _ _ (Z6 Pq.out.1)).trans Pq.out.1)) (((both hgrow (Z8 w3 (.cells #[.pointer (some ⟨sb, 0, none⟩), .slice (some ⟨q, 0, none⟩) (ps.length + 1) cap] 129))).block _ (by have := Z6 Pq.out.2; simp; omega) (by nofun)).trans ((Below.heap_alloc _ _ _ (Z6 Pq.out.2)).trans Pq.out.2))); clear hown hgrow hq1 hq2; refine hK.out _ _ s2 (fun _ => ?_); clear hK K; refine tks (b := ?_) (by kernel_rfl) (fun _ _ _ _ _ h => h) s2 1 [14] (by kernel_rfl) ?_ ?_; rotate_left
    ·refine yc (v := ?_) rfl rfl (by rfl) (fun w9 hSw => ?_) ?_; rotate_left; (focus go_simp; try rfl); simp only [Act.put, Zj, Zi, Zh]
     exact rfl
    refine rd1 15 (by kernel_rfl) rfl fun K hK => ?_
    go_simp; refine hK.out _ _ s3 (fun _ => ?_); clear hK K; refine rd1 16 (by kernel_rfl) rfl fun K hK => ?_
    go_simp; go_at_call 61; refine HX.out.mono ?_; rintro e w' ⟨QZ, hE2, hM2, rfl⟩; exact ⟨rfl, QZ, (Em.free sQ.out).trans hE2, hM2, rfl⟩
end
theorem Em.blocks {mb : Nat} {w w' : World} {r r' : Option Nat} {a : Addr} {v : Value} (g : Em mb w w' r r') (h : w.cell? a = some v) (h1 : a.block ≠ mb) (h2 : r ≠ some a.block) : w'.cell? a = some v := by
 have hb := World.block_lt_of_cell? w _ h
 unfold World.cell? at h ⊢
 rw [g.kept _ hb h1 h2]; exact h
section
variable {P : Zz} {fl : List ZJ} {fe : Int} {B g : Nat}
theorem Ju (hP : Ctx P fl) (HE : VW P fl fe B g) (M : Nat -> Prop) (mb : Nat) (fv : Value) (k : Nat) (self : ZT) (loc : List ZT) (st : Xa) (ov : Value) (w : World) (va vb : Value) (a b : ZT)
 (hH : Hyp P fl fe B M mb fv k self loc st ov w) (hA : Wx M w va a) (hB : Wx M w vb b) (hga : VG P a) (hgb : VG P b) (h7 : a.op = 7) (hg : fe - st.steps < g) :
 Calls Tryz.prog 30 #[.pointer (some ⟨mb, 0, none⟩), va, vb] w (WG mb fv fe w ov (Y1 fl fe g (fl.getD a.n.toNat default).body a [b] st) fun v y w' => Wx M w' y v) := by
 obtain ⟨f0, f1, f2⟩ := hga.fn h7
 rw [hP.len] at f1
 obtain ⟨m, hm⟩ : ∃ m : Nat, a.n = m := ⟨a.n.toNat, by omega⟩
 have hml : m < fl.length := by omega
 have hmt : a.n.toNat = m := by omega
 rw [hmt]
 obtain ⟨g1, g2, g3, _⟩ := hP.fn _ hml
 have hv := hP.valid _ (Zr default fl _ hml)
 unfold V6 at hv
 rw [Bool.and_eq_true] at hv
 have hF : Fn P fl m a := ⟨hml, by omega, hga, by rw [f2, hmt, g1]⟩
 obtain ⟨ab, UA, aps, rfl, ha, _⟩ := hA.open
 obtain ⟨bb, _, _, rfl, _⟩ := id hB.open
 obtain ⟨qb, qo, qc, bB, hqc, hqB, z0, z1, z2, z3, z4⟩ := VT hH.Jw.1 m hml
 have hX := hH.Jw.2.2 _ (Zr default fl _ hml)
 have hT := hP.txt _ hml
 obtain ⟨d0, d1, d2, d3⟩ := hH.Vd.cells
 rw [bB] at d0
 obtain ⟨_, a1, _, _⟩ := YV ha
 rw [hm] at a1
 have hg1 := Z8 w (.cells #[.pointer (some ⟨bb, 0, none⟩)] 79)
 have hn1 := ZV w (.cells #[.pointer (some ⟨bb, 0, none⟩)] 79)
 have hG : w.grownBy ((w.alloc (.cells #[.pointer (some ⟨bb, 0, none⟩)] 79)).alloc (.cells #[.pointer (some ⟨ab, 0, none⟩), .slice (some ⟨w.heap.size, 0, none⟩) 1 1] 129)).drew none := both (both hg1 (Z8 (w.alloc (.cells #[.pointer (some ⟨bb, 0, none⟩)] 79)) (.cells #[.pointer (some ⟨ab, 0, none⟩), .slice (some ⟨w.heap.size, 0, none⟩) 1 1] 129))) (Z4 _)
 have hn2 : ((w.alloc (.cells #[.pointer (some ⟨bb, 0, none⟩)] 79)).alloc (.cells #[.pointer (some ⟨ab, 0, none⟩), .slice (some ⟨w.heap.size, 0, none⟩) 1 1] 129)).drew.heap[w.heap.size + 1]? = some (.cells #[.pointer (some ⟨ab, 0, none⟩), .slice (some ⟨w.heap.size, 0, none⟩) 1 1] 129 (0, 0)) := ZF (by simp) (.cells #[.pointer (some ⟨ab, 0, none⟩), .slice (some ⟨w.heap.size, 0, none⟩) 1 1] 129)
 have hn1' : ((w.alloc (.cells #[.pointer (some ⟨bb, 0, none⟩)] 79)).alloc (.cells #[.pointer (some ⟨ab, 0, none⟩), .slice (some ⟨w.heap.size, 0, none⟩) 1 1] 129)).drew.heap[w.heap.size]? = some (.cells #[.pointer (some ⟨bb, 0, none⟩)] 79 (0, 0)) := ((Z8 (w.alloc (.cells #[.pointer (some ⟨bb, 0, none⟩)] 79)) (.cells #[.pointer (some ⟨ab, 0, none⟩), .slice (some ⟨w.heap.size, 0, none⟩) 1 1] 129)).block w.heap.size (by simp) (by nofun)).trans hn1
 have hkp := YS (M := M) hG
 have hC := HE M mb fv m a [b] st ov ((w.alloc (.cells #[.pointer (some ⟨bb, 0, none⟩)] 79)).alloc (.cells #[.pointer (some ⟨ab, 0, none⟩), .slice (some ⟨w.heap.size, 0, none⟩) 1 1] 129)).drew _ (w.heap.size + 1) (.pointer (some ⟨ab, 0, none⟩)) (.slice (some ⟨w.heap.size, 0, none⟩) 1 1) [.pointer (some ⟨bb, 0, none⟩)]
  (by have h := hH.free hG; exact ⟨h.Jw, h.lo, h.m0, h.Vd, hF, fun y hy => by rw [List.mem_singleton.1 hy]; exact hgb, h.le, by have := h.s0; show (1 : Int) <= _; omega, h.s0, h.out, h.tab, h.gB, Nat.zero_lt_one⟩)
  ⟨hn2, fun h => by have := hH.m0 _ h; omega, hA.kept hkp, ⟨_, _, rfl, Nat.le_refl _, (fun h => by cases h), fun _ => ⟨_, 0, _, rfl, fun h => by have := hH.m0 _ h; omega, hn1', fun j hj => by
    have : j = 0 := by simpa using hj
    subst this; exact (Zk _ _ 0 _ _ _ hn1').trans rfl⟩⟩, rfl, fun i hi => by
    have : i = 0 := by simpa using hi
    subst this; exact hB.kept hkp⟩
  (hX.under (hH.Vd.below (Em.free (r := ov.ownBlock) hG) hH.lo)) hv.2 hT hg
 generalize (fl.getD m default).body = x at *
 obtain ⟨xo, xn, xs, xv, xl⟩ := x
 obtain ⟨xa, xc, rfl, _⟩ := hX.parts.1
 simp only [Z0.op, Z0.n, Z0.s, Z0.lv] at z1 z2 z3 z4
 rw [ZE] at hC
 have hmi : (m : Int) < ((fl.length : Nat) : Int) := by omega
 have s0 : w.drew.cell? ⟨mb, 0, none⟩ = some (.slice (some ⟨qb, qo, none⟩) fl.length qc) /\ w.drew.cell? ⟨ab, 1, none⟩ = some (.int .i64 (m : Int)) /\ w.drew.cell? ⟨qb, qo + m * 5 + 1, none⟩ = some (.int .i64 xo) /\ w.drew.cell? ⟨qb, qo + m * 5 + 2, none⟩ = some (.int .i64 xn) /\ w.drew.cell? ⟨qb, qo + m * 5 + 3, none⟩ = some (.string xs) /\ w.drew.cell? ⟨qb, qo + m * 5 + 4, none⟩ = some (.slice xa xl.length xc) := ⟨d0, a1, z1, z2, z3, z4⟩
 have s1 : (w.alloc (.cells #[.pointer (some ⟨bb, 0, none⟩)] 79)).drew.cell? ⟨mb, 0, none⟩ = some (.slice (some ⟨qb, qo, none⟩) fl.length qc) /\ (w.alloc (.cells #[.pointer (some ⟨bb, 0, none⟩)] 79)).drew.cell? ⟨ab, 1, none⟩ = some (.int .i64 (m : Int)) /\ (w.alloc (.cells #[.pointer (some ⟨bb, 0, none⟩)] 79)).drew.cell? ⟨qb, qo + m * 5 + 1, none⟩ = some (.int .i64 xo) /\ (w.alloc (.cells #[.pointer (some ⟨bb, 0, none⟩)] 79)).drew.cell? ⟨qb, qo + m * 5 + 2, none⟩ = some (.int .i64 xn) /\ (w.alloc (.cells #[.pointer (some ⟨bb, 0, none⟩)] 79)).drew.cell? ⟨qb, qo + m * 5 + 3, none⟩ = some (.string xs) /\ (w.alloc (.cells #[.pointer (some ⟨bb, 0, none⟩)] 79)).drew.cell? ⟨qb, qo + m * 5 + 4, none⟩ = some (.slice xa xl.length xc) := ⟨Z5 d0 _, Z5 a1 _, Z5 z1 _, Z5 z2 _, Z5 z3 _, Z5 z4 _⟩
 have s2 : ((w.alloc (.cells #[.pointer (some ⟨bb, 0, none⟩)] 79)).alloc (.cells #[.pointer (some ⟨ab, 0, none⟩), .slice (some ⟨w.heap.size, 0, none⟩) 1 1] 129)).drew.cell? ⟨mb, 0, none⟩ = some (.slice (some ⟨qb, qo, none⟩) fl.length qc) /\ ((w.alloc (.cells #[.pointer (some ⟨bb, 0, none⟩)] 79)).alloc (.cells #[.pointer (some ⟨ab, 0, none⟩), .slice (some ⟨w.heap.size, 0, none⟩) 1 1] 129)).drew.cell? ⟨ab, 1, none⟩ = some (.int .i64 (m : Int)) /\ ((w.alloc (.cells #[.pointer (some ⟨bb, 0, none⟩)] 79)).alloc (.cells #[.pointer (some ⟨ab, 0, none⟩), .slice (some ⟨w.heap.size, 0, none⟩) 1 1] 129)).drew.cell? ⟨qb, qo + m * 5 + 1, none⟩ = some (.int .i64 xo) /\ ((w.alloc (.cells #[.pointer (some ⟨bb, 0, none⟩)] 79)).alloc (.cells #[.pointer (some ⟨ab, 0, none⟩), .slice (some ⟨w.heap.size, 0, none⟩) 1 1] 129)).drew.cell? ⟨qb, qo + m * 5 + 2, none⟩ = some (.int .i64 xn) /\ ((w.alloc (.cells #[.pointer (some ⟨bb, 0, none⟩)] 79)).alloc (.cells #[.pointer (some ⟨ab, 0, none⟩), .slice (some ⟨w.heap.size, 0, none⟩) 1 1] 129)).drew.cell? ⟨qb, qo + m * 5 + 3, none⟩ = some (.string xs) /\ ((w.alloc (.cells #[.pointer (some ⟨bb, 0, none⟩)] 79)).alloc (.cells #[.pointer (some ⟨ab, 0, none⟩), .slice (some ⟨w.heap.size, 0, none⟩) 1 1] 129)).drew.cell? ⟨qb, qo + m * 5 + 4, none⟩ = some (.slice xa xl.length xc) := ⟨cell_grown d0 hG, cell_grown a1 hG, cell_grown z1 hG, cell_grown z2 hG, cell_grown z3 hG, cell_grown z4 hG⟩
 have hne : ab ≠ mb /\ ov.ownBlock ≠ some ab /\ qb ≠ mb /\ ov.ownBlock ≠ some qb := by
  have h1 := hH.lo; refine ⟨fun e => ?_, fun e => ?_, by omega, fun e => by have := (Zw hH.Vd.own _ e).1; omega⟩
  ·rw [e, hH.Vd.blk] at ha; exact absurd (Obj.cells.inj (Option.some.inj ha)).2.1 (by decide)
  ·obtain ⟨c, hc⟩ := XP hH.Vd.own _ e
   rw [ha] at hc; exact absurd (Obj.cells.inj (Option.some.inj hc)).2.1 (by decide)
 have HS4 := Z9 (fun (w4 : World) (QZ : Value) (hE2 : Em mb ((w.alloc (.cells #[.pointer (some ⟨bb, 0, none⟩)] 79)).alloc (.cells #[.pointer (some ⟨ab, 0, none⟩), .slice (some ⟨w.heap.size, 0, none⟩) 1 1] 129)).drew w4 ov.ownBlock QZ.ownBlock) (hd : w4.cell? ⟨mb, 0, none⟩ = some (.slice (some ⟨qb, qo, none⟩) fl.length qc)) => show w4.cell? ⟨mb, 0, none⟩ = some (.slice (some ⟨qb, qo, none⟩) fl.length qc) /\ w4.cell? ⟨ab, 1, none⟩ = some (.int .i64 (m : Int)) /\ w4.cell? ⟨qb, qo + m * 5 + 1, none⟩ = some (.int .i64 xo) /\ w4.cell? ⟨qb, qo + m * 5 + 2, none⟩ = some (.int .i64 xn) /\ w4.cell? ⟨qb, qo + m * 5 + 3, none⟩ = some (.string xs) /\ w4.cell? ⟨qb, qo + m * 5 + 4, none⟩ = some (.slice xa xl.length xc) from ⟨hd, hE2.blocks s2.2.1 hne.1 hne.2.1, hE2.blocks s2.2.2.1 hne.2.2.1 hne.2.2.2, hE2.blocks s2.2.2.2.1 hne.2.2.1 hne.2.2.2, hE2.blocks s2.2.2.2.2.1 hne.2.2.1 hne.2.2.2, hE2.blocks s2.2.2.2.2.2 hne.2.2.1 hne.2.2.2⟩)
 generalize Y1 fl fe g (.mk xo xn xs (.slice xa xl.length xc) xl) a [b] st = r at *
 have HX := Z9 hC
 have HG := Z9 hG
 have HFV := Z9 bB
 have HMB := Z9 (Z6 hH.Vd.blk)
 clear hC hG hH hA hB hga hgb hX hT hv hF ha hg hn1 hn1' hn2 hkp hg1 hne f2 g1 g2 g3
 cases r with
 | ok v2 st2 =>
   go_in; go_upto_region 1 with fail; refine XG (S := (fun w9 => w9.cell? ⟨mb, 0, none⟩ = some (.slice (some ⟨qb, qo, none⟩) fl.length qc) /\ w9.cell? ⟨ab, 1, none⟩ = some (.int .i64 (m : Int)) /\ w9.cell? ⟨qb, qo + m * 5 + 1, none⟩ = some (.int .i64 xo) /\ w9.cell? ⟨qb, qo + m * 5 + 2, none⟩ = some (.int .i64 xn) /\ w9.cell? ⟨qb, qo + m * 5 + 3, none⟩ = some (.string xs) /\ w9.cell? ⟨qb, qo + m * 5 + 4, none⟩ = some (.slice xa xl.length xc))) (by kernel_rfl) s0 (fun hHeld => ?_); refine tks (b := ?_) (by kernel_rfl) (fun _ _ _ _ _ h => h) s0 14 [0, 1, 2, 3, 4, 5, 6, 7, 8, 9, 10, 11, 12, 13] (by kernel_rfl) ?_ ?_; rotate_left
   ·iterate 14 (refine yc (v := ?_) rfl rfl (by rfl) (fun w9 hSw => ?_) ?_; rotate_left; (focus go_simp; try rfl); simp only [Act.put, Zj, Zi, Zh])
    exact rfl
   refine rd1 14 (by kernel_rfl) rfl fun K hK => ?_
   go_simp; refine hK.out _ _ s1 (fun _ => ?_); clear hK K; refine tks (b := ?_) (by kernel_rfl) (fun _ _ _ _ _ h => h) s1 1 [15] (by kernel_rfl) ?_ ?_; rotate_left
   ·refine yc (v := ?_) rfl rfl (by rfl) (fun w9 hSw => ?_) ?_; rotate_left; (focus go_simp; try rfl); simp only [Act.put, Zj, Zi, Zh]
    exact rfl
   refine rd1 16 (by kernel_rfl) rfl fun K hK => ?_
   go_simp; refine hK.out _ _ s2 (fun _ => ?_); clear hK K; refine rd1 17 (by kernel_rfl) rfl fun K hK => ?_
   go_simp; go_at_call 61; refine HX.out.mono ?_; rintro e w4 ⟨QZ, hE2, hM2, y, rfl, hK2⟩; have s4 := HS4.out w4 QZ hE2 (by have h := hM2.cells.1; rw [HFV.out] at h; exact h); refine hK.out _ _ s4 (fun _ => ?_); clear hK K; refine tks (b := ?_) (by kernel_rfl) (fun _ _ _ _ _ h => h) s4 1 [18] (by kernel_rfl) ?_ ?_; rotate_left
   ·refine yc (v := ?_) rfl rfl (by rfl) (fun w9 hSw => ?_) ?_; rotate_left; (focus go_simp; try rfl); simp only [Act.put, Zj, Zi, Zh]
    exact rfl
   refine X3 (by kernel_rfl) ?_ _; go_wp2; go_ret; exact ⟨QZ, (Em.free HG.out).trans hE2, hM2, y, rfl, hK2⟩
 | stop o n st2 =>
   go_in; go_upto_region 1 with fail; refine XG (S := (fun w9 => w9.cell? ⟨mb, 0, none⟩ = some (.slice (some ⟨qb, qo, none⟩) fl.length qc) /\ w9.cell? ⟨ab, 1, none⟩ = some (.int .i64 (m : Int)) /\ w9.cell? ⟨qb, qo + m * 5 + 1, none⟩ = some (.int .i64 xo) /\ w9.cell? ⟨qb, qo + m * 5 + 2, none⟩ = some (.int .i64 xn) /\ w9.cell? ⟨qb, qo + m * 5 + 3, none⟩ = some (.string xs) /\ w9.cell? ⟨qb, qo + m * 5 + 4, none⟩ = some (.slice xa xl.length xc))) (by kernel_rfl) s0 (fun hHeld => ?_); refine tks (b := ?_) (by kernel_rfl) (fun _ _ _ _ _ h => h) s0 14 [0, 1, 2, 3, 4, 5, 6, 7, 8, 9, 10, 11, 12, 13] (by kernel_rfl) ?_ ?_; rotate_left
   ·iterate 14 (refine yc (v := ?_) rfl rfl (by rfl) (fun w9 hSw => ?_) ?_; rotate_left; (focus go_simp; try rfl); simp only [Act.put, Zj, Zi, Zh])
    exact rfl
   refine rd1 14 (by kernel_rfl) rfl fun K hK => ?_
   go_simp; refine hK.out _ _ s1 (fun _ => ?_); clear hK K; refine tks (b := ?_) (by kernel_rfl) (fun _ _ _ _ _ h => h) s1 1 [15] (by kernel_rfl) ?_ ?_; rotate_left
   ·refine yc (v := ?_) rfl rfl (by rfl) (fun w9 hSw => ?_) ?_; rotate_left; (focus go_simp; try rfl); simp only [Act.put, Zj, Zi, Zh]
    exact rfl
   refine rd1 16 (by kernel_rfl) rfl fun K hK => ?_
   go_simp; refine hK.out _ _ s2 (fun _ => ?_); clear hK K; refine rd1 17 (by kernel_rfl) rfl fun K hK => ?_
   go_simp; go_at_call 61; refine HX.out.mono ?_; rintro e w' ⟨QZ, hE2, hM2, rfl⟩; exact ⟨rfl, QZ, (Em.free HG.out).trans hE2, hM2, rfl⟩
end
end Go.Proofs.YtbcfdebdikgijaaGreatDoor
