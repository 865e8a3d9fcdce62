/- Part of the proof; its texts: Rx2. -/
import Derived.Test.YtbcfdebdikgijaaGreatDoorS32
set_option maxRecDepth 100000
set_option linter.unusedVariables false
set_option linter.unusedSimpArgs false
set_option maxHeartbeats 2000000
namespace Go.Proofs.YtbcfdebdikgijaaGreatDoor
open Go Go.RowKit
section
variable {P : Zz} {fl : List ZJ} {fe : Int} {B g : Nat}
theorem xX {M : Nat -> Prop} {w w' : World} {lb lo n c : Nat} {ps : List Value} (h : Oe M w (.slice (some ⟨lb, lo, none⟩) n c) ps) (hn : 0 < ps.length) (k : Sl M w w') (j : Nat) : w'.cell? ⟨lb, j, none⟩ = w.cell? ⟨lb, j, none⟩ := by
 obtain ⟨a, c', e, _, _, hr⟩ := h
 obtain ⟨rfl, _, _⟩ := Value.slice.inj e
 obtain ⟨b, off, cur, e3, hm, hb, _⟩ := hr hn
 obtain ⟨rfl, _, _⟩ := Addr.mk.inj (Option.some.inj e3)
 unfold World.cell?
 rw [k lb cur _ (.inr (.inl rfl)) hb hm]
theorem H6 {n : Int} {s : ByteArray} {self v : ZT} {loc : List ZT} {st : Xa} : Tt 7 n s self loc [v] st = if v.op = 3 /\ n < (v.l.length : Int) then .ok (v.l.getD n.toNat default) st else .stop 4 0 st := rfl
theorem Mf {op s : Int} (h5 : s ≠ 5) (h7 : s ≠ 7) : Ig op = s ↔ op = s := by unfold Ig; split <;> omega
def eu (fl : List ZJ) (fe : Int) (g : Nat) (self : ZT) (loc : List ZT) (r : List Z0) (v : ZT) (st : Xa) : WR ZT :=
 if v.op ≠ 4 then .stop 4 0 st else if (r.length : Int) + 1 <= v.n + 1 then .stop 4 0 st else Y1 fl fe g (r.getD v.n.toNat default) self (loc ++ [v.l.headD default]) st
theorem Hw {n : Int} {s : ByteArray} {lv : Value} {x : Z0} {r : List Z0} {self : ZT} {loc : List ZT} {st : Xa} (hst : st.steps ≠ fe) : Y1 fl fe (g + 1) (.mk 9 n s lv (x :: r)) self loc st = Vw (Y1 fl fe g x self loc st.tick) fun v st =>
 if v.op ≠ 4 then .stop 4 0 st else if ((x :: r).length : Int) <= v.n + 1 then .stop 4 0 st else Y1 fl fe g ((x :: r).getD (v.n + 1).toNat default) self (loc ++ [v.l.headD default]) st := by
 rw [Y1, Z7 hst, Z7 (by decide), ZY rfl]; rfl
theorem oF {x : Z0} {r : List Z0} {q : WR ZT} {self : ZT} {loc : List ZT} (h : ∀ v st, q = .ok v st -> v.op = 4 -> 0 <= v.n) : (Vw q fun v st => if v.op ≠ 4 then .stop 4 0 st else if ((x :: r).length : Int) <= v.n + 1 then .stop 4 0 st else Y1 fl fe g ((x :: r).getD (v.n + 1).toNat default) self (loc ++ [v.l.headD default]) st) = Vw q (eu fl fe g self loc r) := by
 cases q with
 | stop o m st => rfl
 | ok v st =>
   show (if v.op ≠ 4 then _ else _) = eu fl fe g self loc r v st
   unfold eu; by_cases h4 : v.op = 4
   ·rw [Z7 (show ¬ v.op ≠ 4 from fun h => h h4), Z7 (show ¬ v.op ≠ 4 from fun h => h h4)]
    have := h v st rfl h4; rw [show (v.n + 1).toNat = v.n.toNat + 1 by omega, List.getD_cons_succ]; rfl
   ·rw [ZY h4, ZY h4]
theorem oD (HE : VW P fl fe B g) (hP : Ctx P fl) (M : Nat -> Prop) (mb : Nat) (fv : Value) (k : Nat) (self : ZT) (loc : List ZT) (st : Xa) (ov : Value) (w : World) (n : Int) (s : ByteArray) (xv : Value) (l : List Z0) (fb : Nat) (sv lv : Value) (ps : List Value)
 (hH : Hyp P fl fe B M mb fv k self loc st ov w) (hF : Yk M w fb sv lv ps self loc) (hX : Y0 B w (.mk 7 n s xv l)) (hf : ZI (fl.getD k default).caps (YM fl) loc.length (.mk 7 n s xv l) = true) (ht : ∀ y ∈ YK (.mk 7 n s xv l), y ∈ P.texts) (hg : fe - st.steps < (g + 1 : Nat)) (hfe : fe <= 1048576) (hst : st.steps ≠ fe) :
 Calls Tryz.prog 61 #[.pointer (some ⟨mb, 0, none⟩), Ws (.mk 7 n s xv l), .pointer (some ⟨fb, 0, none⟩)] w (WG mb fv fe w ov (Y1 fl fe (g + 1) (.mk 7 n s xv l) self loc st) fun v y w' => Wx M w' y v) := by
 obtain ⟨hfm, hfp⟩ := Za hf
 obtain ⟨Xy, _, Rz⟩ := hX.parts
 obtain ⟨xa, xc, rfl, hxc⟩ := id Xy
 rw [ZE]
 have hn7 := (L9 hfm).1
 simp only [Y7, Bool.and_eq_true, decide_eq_true_eq] at hn7
 obtain ⟨x, l0, rfl⟩ := Qx (show 1 <= l.length by omega)
 obtain rfl : l0 = [] := List.eq_nil_of_length_eq_zero (by have := hn7.1; rw [List.length_cons] at this; omega)
 obtain ⟨qb, qo, rfl⟩ := Nj Xy (by simp)
 rw [YG, Z7 (by decide), YZ, X0, List.append_nil] at ht
 have fx0 := hfp 0 (by simp)
 change ZI (fl.getD k default).caps (YM fl) loc.length x = true at fx0
 have htx : ∀ s ∈ YK x, s ∈ P.texts := ht
 have hT : Nn fe st.steps st.tick := ⟨by show st.steps <= st.steps + 1; omega, by have := hH.le; show st.steps + 1 <= fe; omega, hH.out⟩
 have hts : st.tick.steps = st.steps + 1 := rfl
 have hKx := Wm (fe := fe) hP g x k self loc st.tick hH.hfn hH.ME fx0 htx hT.2.1 hT.2.2
 have AP := Z9 (fun (W : World) (H1 : Hyp P fl fe B M mb fv k self loc st.tick ov W) (F1 : Yk M W fb sv lv ps self loc) (hb : Below B w W) => HE M mb fv k self loc st.tick ov W x fb sv lv ps H1 F1 ((Rz x (by simp)).under hb) fx0 htx (by omega))
 have hxe := Rz x (by simp)
 have xD := Z9 (fun (W : World) (hb : Below B w W) => SF Xy hb 0 (by simp))
 rw [Wz hst (by decide) (by decide) (by decide) (by decide), rT]
 rw [show ([x] : List Z0).length = 1 from rfl] at *
 have hn0 := hn7.2
 generalize Y1 fl fe g x self loc st.tick = r at *
 have HK := Z9 hKx
 clear hKx
 obtain ⟨xo, xn, xs, xv, xl⟩ := x
 obtain ⟨xa, xc1, rfl, _⟩ := hxe.parts.1
 rw [ZE] at AP
 simp only [List.getD_cons_zero, Z0.op, Z0.n, Z0.s, Z0.lv, Nat.zero_mul, Nat.add_zero] at xD
 obtain ⟨W1, hW1, hmb, m1, m2, fz, x0, hs0, hse, hwr, hne, L1, HH, H1, E1, F1, X1⟩ := Xp hH hF hst hfe 7 n s (.slice (some ⟨qb, qo, none⟩) 1 xc) _ rfl
 clear hH hF hX hf ht hg hfe hst HE hP Xy Rz hfm hfp hxc fx0 htx hT hts hxe hn7
 go_in
 go_upto_region 1 with fail
 generalize w.alloc (.cells #[.int .i64 7, .int .i64 n, .string s, .slice (some ⟨qb, qo, none⟩) 1 xc] 36) = W0 at *
 go_region
 go_upto_region 4 with fail
 rw [hW1.out]
 clear hW1 m1 m2 fz x0
 obtain ⟨x0, x1, x2, x3⟩ := ZP X1.out
 obtain ⟨p0, p1, p2, p3⟩ := xD.out _ (HH.out.Vd.below E1.out HH.out.lo)
 go_wp2_with (first | (go_at_call 61; refine (AP.out _ H1.out F1.out (HH.out.Vd.below E1.out HH.out.lo)).mono ?_; rintro e w2 hA; rcases r with ⟨v, st2⟩ | ⟨o, m, st2⟩; rotate_left; (obtain ⟨ov2, hE2, hM2, rfl⟩ := hA; exact ⟨rfl, ov2, E1.out.trans hE2, hM2, rfl⟩); obtain ⟨ov2, hE2, hM2, y, rfl, hy⟩ := hA; have HY := Z9 hy; obtain ⟨yb, ylv, yps, rfl, hyb, hym, d9, hyl, dZ, hyk⟩ := id hy.open; have HB2 := Z9 (H1.out.Vd.hold hE2 X1.out (by decide) (by decide)); have Ka := Z9 (And.intro hyb (And.intro d9 (And.intro hyl hyk))); have E2 := Z9 (E1.out.trans hE2); have M2 := Z9 hM2; have pz := Z9 (H1.out.Vd.Od (M := M) hE2); have H2 := Z9 (H1.out.step hE2 hM2 HK.out.2); have HW := Z9 (RD hy 3); clear hE2 hM2 hy hyb hym d9 hyl dZ hyk) | (go_at_call 87; refine HW.out.mono ?_; rintro e w3 ⟨rfl, h1, h2⟩; by_cases h3 : v.op = 3; rotate_left; (obtain rfl := h2 fun e => h3 ((Mf (by decide) (by decide)).1 e); exact ⟨rfl, PX (H6.trans (Z7 fun h => h3 h.1)) (RA E2.out M2.out (Yb w2 none) _)⟩); obtain rfl := h1 ((Mf (by decide) (by decide)).2 h3)))
 by_cases hlt : n < (v.l.length : Int)
 ·obtain ⟨m, rfl⟩ : ∃ m : Nat, n = m := ⟨n.toNat, by omega⟩
  have hml : m < v.l.length := by omega
  have HQ : Hid (Tt 7 (m : Int) s self loc [v] st2 = .ok (v.l.getD m default) st2) := Z9 (H6.trans (by rw [if_pos ⟨h3, hlt⟩, Int.toNat_natCast])); obtain ⟨lb, lo, c, rfl, _, hc⟩ := Sk Ka.out.2.1 m (by rw [Ka.out.2.2.1]; exact hml); rw [Ka.out.2.2.1] at Ka; obtain ⟨z0, z1, z2, z3⟩ := ZP HB2.out; obtain ⟨v0, v1, v2, v3⟩ := YV Ka.out.1; have hPm := Ka.out.2.2.2 m hml; obtain ⟨zb, _, _, hz, _⟩ := id hPm.open; rw [hz] at hc hPm; have hge : ¬ ((v.l.length : Nat) : Int) <= (m : Int) := by omega
  clear h3; generalize Ig v.op = q1 at *; generalize hq2 : v.l.length = q2 at *; go_region; go_wp2_with fail; go_region; go_wp2; go_ret; exact PX HQ.out (Mg E2.out M2.out (both (Z4 w2) (Z4 _)) hPm)
 ·have HQ : Hid (Tt 7 n s self loc [v] st2 = .stop 4 0 st2) := Z9 (H6.trans (Z7 fun h => hlt h.2))
  obtain ⟨ya, yq, rfl, _⟩ := id Ka.out.2.1; rw [Ka.out.2.2.1] at Ka; obtain ⟨z0, z1, z2, z3⟩ := ZP HB2.out; obtain ⟨v0, v1, v2, v3⟩ := YV Ka.out.1; have hge : ((v.l.length : Nat) : Int) <= n := by omega
  clear h3 hlt; generalize Ig v.op = q1 at *; generalize hq2 : v.l.length = q2 at *; go_region; go_wp2_with (go_at_call 62; refine (Xz _ _ _).mono ?_; rintro e w' ⟨rfl, rfl⟩); exact ⟨rfl, PX HQ.out (RA E2.out M2.out (Z4 w2) _)⟩
theorem oC (HE : VW P fl fe B g) (hP : Ctx P fl) (M : Nat -> Prop) (mb : Nat) (fv : Value) (k : Nat) (self : ZT) (loc : List ZT) (st : Xa) (ov : Value) (w : World) (n : Int) (s : ByteArray) (xv : Value) (l : List Z0) (fb : Nat) (sv lv : Value) (ps : List Value)
 (hH : Hyp P fl fe B M mb fv k self loc st ov w) (hF : Yk M w fb sv lv ps self loc) (hX : Y0 B w (.mk 9 n s xv l)) (hf : ZI (fl.getD k default).caps (YM fl) loc.length (.mk 9 n s xv l) = true) (ht : ∀ y ∈ YK (.mk 9 n s xv l), y ∈ P.texts) (hg : fe - st.steps < (g + 1 : Nat)) (hfe : fe <= 1048576) (hst : st.steps ≠ fe) :
 Calls Tryz.prog 61 #[.pointer (some ⟨mb, 0, none⟩), Ws (.mk 9 n s xv l), .pointer (some ⟨fb, 0, none⟩)] w (WG mb fv fe w ov (Y1 fl fe (g + 1) (.mk 9 n s xv l) self loc st) fun v y w' => Wx M w' y v) := by
 obtain ⟨hfm, hfp⟩ := Za hf
 obtain ⟨Xy, _, Rz⟩ := hX.parts
 obtain ⟨xa, xc, rfl, hxc⟩ := id Xy
 rw [ZE]
 have hn9 := (Rs hfm).1
 simp only [Y7, Bool.and_eq_true, decide_eq_true_eq] at hn9
 obtain ⟨x, r, rfl⟩ := Qx (show 1 <= l.length by omega)
 obtain ⟨qb, qo, rfl⟩ := Nj Xy (by simp)
 rw [YG, Z7 (by decide), YZ] at ht
 have fx0 := hfp 0 (by simp)
 change ZI (fl.getD k default).caps (YM fl) loc.length x = true at fx0
 have htx : ∀ s ∈ YK x, s ∈ P.texts := fun s hs => ht s (List.mem_append_left _ hs)
 have hT : Nn fe st.steps st.tick := ⟨by show st.steps <= st.steps + 1; omega, by have := hH.le; show st.steps + 1 <= fe; omega, hH.out⟩
 have hts : st.tick.steps = st.steps + 1 := rfl
 have hKx := Wm (fe := fe) hP g x k self loc st.tick hH.hfn hH.ME fx0 htx hT.2.1 hT.2.2
 have AP := Z9 (fun (W : World) (H1 : Hyp P fl fe B M mb fv k self loc st.tick ov W) (F1 : Yk M W fb sv lv ps self loc) (hb : Below B w W) => HE M mb fv k self loc st.tick ov W x fb sv lv ps H1 F1 ((Rz x (by simp)).under hb) fx0 htx (by omega))
 have hxe := Rz x (by simp)
 have xD := Z9 (fun (W : World) (hb : Below B w W) => SF Xy hb 0 (by simp))
 have hrl : r.length <= 1000 := by have := hn9.2.2; rw [List.length_cons] at this; omega
 have hlen := hH.len
 have HPJ := Z9 (fun (W : World) (hb : Below B w W) (j : Nat) (hj : j < r.length) => SF Xy hb (j + 1) (by simpa using hj))
 rw [Hw hst, oF fun v st2 hr h4 => by rw [hr] at hKx; exact (hKx.1.tag h4).2.1]
 rw [show (x :: r).length = r.length + 1 from rfl] at *
 generalize Y1 fl fe g x self loc st.tick = q at *
 have HK := Z9 hKx
 have jD := Z9 (fun (v : ZT) (st2 : Xa) (hr : q = .ok v st2) (h4 : v.op = 4) (j : Nat) (hj : v.n = j) (hjr : j < r.length) =>
  have hk := Rb hKx hr; have hv1 := (hk.1.tag h4).1; have hym := Zr default r j hjr; have a1 : ZI (fl.getD k default).caps (YM fl) (loc.length + 1) (r.getD j default) = true := (by have a := hfp (j + 1) (by simpa using hjr); rwa [show (x :: r).getD (j + 1) default = r.getD j default by simp, show lo 9 loc.length (j + 1) = loc.length + 1 from by unfold lo bump; rw [ZY (by omega), ZY (by omega)]] at a)
  And.intro (And.intro (Rz _ (List.mem_cons_of_mem x hym)) fun (W : World) (hb : Below B w W) => HPJ.out W hb j hjr) fun (W : World) (ov2 : Value) (vy : Value) (H : Hyp P fl fe B M mb fv k self loc st2 ov2 W) (F : Yk M W fb sv lv ps self loc) (hV : Wx M W vy (v.l.headD default)) (hb : Below B w W) => MO HE hfe M mb fv k self loc st2 ov2 W (r.getD j default) fb sv lv ps vy _ H F hV (Oh hk.1.all (by omega)) ((Rz _ (List.mem_cons_of_mem x hym)).under hb) a1 (fun s hs => ht s (List.mem_append_right _ (Uh hym hs))) (by have := hk.2.1; omega) (by have := hk.2.1; omega))
 clear hKx HPJ
 obtain ⟨xo, xn, xs, xv, xl⟩ := x
 obtain ⟨xa, xc1, rfl, _⟩ := hxe.parts.1
 rw [ZE] at AP
 simp only [List.getD_cons_zero, Z0.op, Z0.n, Z0.s, Z0.lv, Nat.zero_mul, Nat.add_zero] at xD
 obtain ⟨W1, hW1, hmb, m1, m2, fz, x0, hs0, hse, hwr, hne, L1, HH, H1, E1, F1, X1⟩ := Xp hH hF hst hfe 9 n s (.slice (some ⟨qb, qo, none⟩) (r.length + 1) xc) _ rfl
 clear hH hF hX hf ht hg hfe hst HE hP Xy Rz hfm hfp hxc fx0 htx hT hts hxe hn9 hlen
 go_in
 go_upto_region 1 with fail
 generalize w.alloc (.cells #[.int .i64 9, .int .i64 n, .string s, .slice (some ⟨qb, qo, none⟩) (r.length + 1) xc] 36) = W0 at *
 go_region
 go_upto_region 4 with fail
 rw [hW1.out]
 clear hW1 m1 m2 fz x0
 obtain ⟨x0, x1, x2, x3⟩ := ZP X1.out
 obtain ⟨p0, p1, p2, p3⟩ := xD.out _ (HH.out.Vd.below E1.out HH.out.lo)
 go_wp2_with (first | (go_at_call 61; refine (AP.out _ H1.out F1.out (HH.out.Vd.below E1.out HH.out.lo)).mono ?_; rintro e w2 hA; rcases q with ⟨v, st2⟩ | ⟨o, m, st2⟩; rotate_left; (obtain ⟨ov2, hE2, hM2, rfl⟩ := hA; exact ⟨rfl, ov2, E1.out.trans hE2, hM2, rfl⟩); obtain ⟨ov2, hE2, hM2, y, rfl, hy⟩ := hA; have HY := Z9 hy; obtain ⟨yb, ylv, yps, rfl, hyb, hym, d9, hyl, dZ, hyk⟩ := id hy.open; have HB2 := Z9 (H1.out.Vd.hold hE2 X1.out (by decide) (by decide)); have Ka := Z9 (And.intro hyb (And.intro d9 (And.intro hyl hyk))); have E2 := Z9 (E1.out.trans hE2); have M2 := Z9 hM2; have pz := Z9 (H1.out.Vd.Od (M := M) hE2); have H2 := Z9 (H1.out.step hE2 hM2 HK.out.2); have HW := Z9 (RD hy 4); clear hE2 hM2 hy hyb hym d9 hyl dZ hyk) | (go_at_call 87; refine HW.out.mono ?_; rintro e w3 ⟨rfl, h1, h2⟩; by_cases h3 : v.op = 4; rotate_left; (obtain rfl := h2 fun e => h3 ((Mf (by decide) (by decide)).1 e); exact ⟨rfl, PX (ZY h3) (RA E2.out M2.out (Yb w2 none) _)⟩); obtain rfl := h1 ((Mf (by decide) (by decide)).2 h3)))
 obtain ⟨hv1, hv2, hv3⟩ := HK.out.1.tag h3
 obtain ⟨lb, lo, c, rfl, _, hc⟩ := Sk Ka.out.2.1 0 (by rw [Ka.out.2.2.1, hv1]; decide)
 have HRP := Z9 Ka.out.2.1
 have hpl : yps.length = 1 := Ka.out.2.2.1.trans hv1
 rw [Nat.add_zero] at hc
 have bg := Ka.out.2.2.2 0 (by rw [hv1]; decide)
 obtain ⟨zb, _, _, hz, _⟩ := id bg.open
 rw [hz] at hc bg
 have HYB : Hid (w2.heap[yb]? = some (.cells (Y9 v.op v.n v.s (.slice (some ⟨lb, lo, none⟩) yps.length c)) 83 (0, 0))) := Z9 Ka.out.1
 obtain ⟨z0, z1, z2, z3⟩ := ZP HB2.out
 obtain ⟨v0, v1, v2, v3⟩ := YV HYB.out
 by_cases hlt : (r.length : Int) + 1 <= v.n + 1
 ·have HQ : Hid (eu fl fe g self loc r v st2 = .stop 4 0 st2) := Z9 ((Z7 fun h => h h3).trans (ZY hlt))
  have hwr2 : IntKind.i64.wrap (v.n + 1) = v.n + 1 := YJ _ (by omega) (by omega); clear h3 Ka HYB jD HK; generalize v.n = q1 at *; go_region; go_wp2_with (go_at_call 62; refine (Xz _ _ _).mono ?_; rintro e w' ⟨rfl, rfl⟩); exact ⟨rfl, PX HQ.out (RA E2.out M2.out (Z4 w2) _)⟩
 ·obtain ⟨j, hj⟩ : ∃ j : Nat, v.n = j := ⟨v.n.toNat, by omega⟩
  have hjr : j < r.length := by omega
  obtain ⟨⟨hye, hpj⟩, hin⟩ := jD.out v st2 rfl h3 j hj hjr; have aZ := Z9 hpj; have HQ : Hid (eu fl fe g self loc r v st2 = Y1 fl fe g (r.getD j default) self (loc ++ [v.l.headD default]) st2) := Z9 (((Z7 fun h => h h3).trans (Z7 hlt)).trans (by rw [hj, Int.toNat_natCast])); have aY := Z9 hin; clear jD hin hpj; simp only [List.getD_cons_succ] at aZ; generalize r.getD j default = yy at *; have hhd : v.l.headD default = v.l.getD 0 default := by cases v.l <;> rfl
  rw [hhd] at HQ aY; obtain ⟨yo, yn, ys, yv, yl⟩ := yy; obtain ⟨ya, yq, rfl, _⟩ := hye.parts.1; rw [ZE] at aY; simp only [Z0.op, Z0.n, Z0.s, Z0.lv] at aZ; rw [hj] at v1; rw [hpl] at v3; have hwr2 : IntKind.i64.wrap ((j : Int) + 1) = ((j + 1 : Nat) : Int) := by rw [YJ _ (by omega) (by omega)]; omega
  have hge : ¬ ((r.length : Nat) : Int) + 1 <= ((j + 1 : Nat) : Int) := by omega
  have aco : ((j + 1 : Nat) : Int) < ((r.length + 1 : Nat) : Int) := by omega
  have hnl : ¬ (j : Int) + 1 < 0 := by omega
  have acp : (j : Int) + 1 < (r.length : Int) + 1 := by omega
  have HIX := Z9 (aY.out w2.drew.drew ov2 _ (H2.out.free (both (Z4 w2) (Z4 _))) ((F1.out.kept pz.out).kept (YS (both (Z4 w2) (Z4 _)))) (bg.kept (YS (both (Z4 w2) (Z4 _)))) (HH.out.Vd.below (E2.out.trans (Em.free (both (Z4 w2) (Z4 _)))) HH.out.lo)); have HRK := Z9 (fun (w3 : World) (ov3 : Value) (hE3 : Em mb w2.drew.drew w3 ov2.ownBlock ov3.ownBlock) => xX HRP.out (by omega) ((YS (both (Z4 w2) (Z4 _))).trans ((M2.out.free (both (Z4 w2) (Z4 _))).Od hE3)) lo); clear h3 hlt bg hhd aY; go_region; go_wp2_with fail; have s0 : w2.drew.drew.cell? ⟨w.heap.size, 3, none⟩ = some (.slice (some ⟨qb, qo, none⟩) (r.length + 1) xc) /\ w2.drew.drew.cell? ⟨yb, 1, none⟩ = some (.int .i64 (j : Int)) /\ w2.drew.drew.cell? ⟨yb, 3, none⟩ = some (.slice (some ⟨lb, lo, none⟩) 1 c) /\ w2.drew.drew.cell? ⟨lb, lo, none⟩ = some (.pointer (some ⟨zb, 0, none⟩)) /\ w2.drew.drew.cell? ⟨qb, qo + (j + 1) * 4, none⟩ = some (.int .i64 yo) /\ w2.drew.drew.cell? ⟨qb, qo + (j + 1) * 4 + 1, none⟩ = some (.int .i64 yn) /\ w2.drew.drew.cell? ⟨qb, qo + (j + 1) * 4 + 2, none⟩ = some (.string ys) /\ w2.drew.drew.cell? ⟨qb, qo + (j + 1) * 4 + 3, none⟩ = some (.slice ya yl.length yq) := ⟨z3, v1, v3, hc, aZ.out _ (HH.out.Vd.below (E2.out.trans (Em.free (both (Z4 w2) (Z4 _)))) HH.out.lo)⟩; refine XG (S := (fun w9 => w9.cell? ⟨w.heap.size, 3, none⟩ = some (.slice (some ⟨qb, qo, none⟩) (r.length + 1) xc) /\ w9.cell? ⟨yb, 1, none⟩ = some (.int .i64 (j : Int)) /\ w9.cell? ⟨yb, 3, none⟩ = some (.slice (some ⟨lb, lo, none⟩) 1 c) /\ w9.cell? ⟨lb, lo, none⟩ = some (.pointer (some ⟨zb, 0, none⟩)) /\ w9.cell? ⟨qb, qo + (j + 1) * 4, none⟩ = some (.int .i64 yo) /\ w9.cell? ⟨qb, qo + (j + 1) * 4 + 1, none⟩ = some (.int .i64 yn) /\ w9.cell? ⟨qb, qo + (j + 1) * 4 + 2, none⟩ = some (.string ys) /\ w9.cell? ⟨qb, qo + (j + 1) * 4 + 3, none⟩ = some (.slice ya yl.length yq))) (by kernel_rfl) s0 (fun hHeld => ?_); refine tks (b := ?_) (by kernel_rfl) (fun _ _ _ _ _ h => h) s0 17 [0, 1, 2, 3, 4, 5, 6, 7, 8, 9, 10, 11, 12, 13, 14, 15, 16] (by kernel_rfl) ?_ ?_; rotate_left
  ·iterate 17 (refine yc (v := ?_) rfl rfl (by rfl) (fun w9 hSw => ?_) ?_; rotate_left; (focus go_simp; try rfl); simp only [Act.put, Zj, Zi, Zh])
   exact rfl
  refine rd1 17 (by kernel_rfl) rfl fun K hK => ?_
  go_simp; go_at_call 88; refine HIX.out.mono ?_; rintro e w3 hA; obtain ⟨he, ov3, hE3, hA⟩ := H9 hA; rcases he with ⟨c, rfl⟩ | ⟨y3, rfl⟩; (exact ⟨rfl, PX HQ.out (hA _ _ ((E2.out.trans (Em.free (both (Z4 w2) (Z4 _)))).trans hE3))⟩); have hm2 := M2.out.free (both (Z4 w2) (Z4 _)); obtain ⟨u0, u1, u2, u3⟩ := ZP (hm2.hold hE3 HB2.out (by decide) (by decide)); obtain ⟨t0, t1, t2, t3⟩ := YV (hm2.hold hE3 HYB.out (by decide) (by decide)); rw [hj] at t1; rw [hpl] at t3; have s5 : w3.cell? ⟨w.heap.size, 3, none⟩ = some (.slice (some ⟨qb, qo, none⟩) (r.length + 1) xc) /\ w3.cell? ⟨yb, 1, none⟩ = some (.int .i64 (j : Int)) /\ w3.cell? ⟨yb, 3, none⟩ = some (.slice (some ⟨lb, lo, none⟩) 1 c) /\ w3.cell? ⟨lb, lo, none⟩ = some (.pointer (some ⟨zb, 0, none⟩)) /\ w3.cell? ⟨qb, qo + (j + 1) * 4, none⟩ = some (.int .i64 yo) /\ w3.cell? ⟨qb, qo + (j + 1) * 4 + 1, none⟩ = some (.int .i64 yn) /\ w3.cell? ⟨qb, qo + (j + 1) * 4 + 2, none⟩ = some (.string ys) /\ w3.cell? ⟨qb, qo + (j + 1) * 4 + 3, none⟩ = some (.slice ya yl.length yq) := ⟨u3, t1, t3, (HRK.out w3 ov3 hE3).trans hc, aZ.out _ (HH.out.Vd.below ((E2.out.trans (Em.free (both (Z4 w2) (Z4 _)))).trans hE3) HH.out.lo)⟩; refine hK.out _ _ s5 (fun _ => ?_); clear hK K; refine tks (b := ?_) (by kernel_rfl) (fun _ _ _ _ _ h => h) s5 1 [18] (by kernel_rfl) ?_ ?_; rotate_left
  ·refine yc (v := ?_) rfl rfl (by rfl) (fun w9 hSw => ?_) ?_; rotate_left; (focus go_simp; try rfl); simp only [Act.put, Zj, Zi, Zh]
   exact rfl
  refine X3 (by kernel_rfl) ?_ _; go_wp2; go_ret; exact PX HQ.out (hA _ _ ((E2.out.trans (Em.free (both (Z4 w2) (Z4 _)))).trans hE3))
end
end Go.Proofs.YtbcfdebdikgijaaGreatDoor
