/- Part of the proof; its texts: Rw8 Rx1 Rw9. -/
import Derived.Test.YtbcfdebdikgijaaGreatDoorS31
set_option maxRecDepth 100000
set_option linter.unusedVariables false
set_option linter.unusedSimpArgs false
set_option maxHeartbeats 2000000
namespace Go.Proofs.YtbcfdebdikgijaaGreatDoor
open Go Go.RowKit
section
variable {P : Zz} {fl : List ZJ} {fe : Int} {B g : Nat}
theorem xY {M : Nat -> Prop} {mb : Nat} {fv : Value} {k : Nat} {self : ZT} {loc : List ZT} {st : Xa} {ov : Value} {w : World} (hH : Hyp P fl fe B M mb fv k self loc st ov w) (hst : st.steps ≠ fe) (cs : Array Value) (W1 : World) (hW : W1 = ((w.alloc (.cells cs 36)).setCell ⟨mb, 2, none⟩ (.int .i64 (st.steps + 1))).drew) :
 Hyp P fl fe B M mb fv k self loc st.tick ov W1 /\ Em mb w W1 ov.ownBlock ov.ownBlock /\ W1.heap[w.heap.size]? = some (.cells cs 36 (0, 0)) /\ w.heap.size < W1.heap.size := by
 subst hW
 have hg := Z8 w (.cells cs 36)
 have hn := ZV w (.cells cs 36)
 have hH0 := hH.free hg
 have hmb := Z6 hH.Vd.blk
 have hE0 : Em mb (w.alloc (.cells cs 36)) ((w.alloc (.cells cs 36)).setCell ⟨mb, 2, none⟩ (.int .i64 (st.steps + 1))).drew ov.ownBlock ov.ownBlock := (Em.set _ 2 _ _).trans (Em.free (Z4 _))
 have hE : Em mb w ((w.alloc (.cells cs 36)).setCell ⟨mb, 2, none⟩ (.int .i64 (st.steps + 1))).drew ov.ownBlock ov.ownBlock := (Em.free hg).trans hE0
 have hM := hH0.Vd.tick.free (Z4 _)
 have hle := hH.le
 have hn2 := hH0.Vd.hold hE0 hn (by decide) (by decide)
 refine ⟨hH.step hE hM ⟨by show st.steps <= st.steps + 1; omega, by show st.steps + 1 <= fe; omega, hH.out⟩, hE, hn2, Z6 hn2⟩
theorem H9 {mb : Nat} {fv : Value} {w1 w' : World} {ov1 : Value} {r : WR ZT} {e : Ending} {M : Nat -> Prop} (h : WG mb fv fe w1 ov1 r (fun v y w' => Wx M w' y v) e w') :
 ((∃ c, e = .panicked c) \/ ∃ y, e = .returned y) /\ ∃ QZ : Value, Em mb w1 w' ov1.ownBlock QZ.ownBlock /\ ∀ (w : World) (ov : Value), Em mb w w' ov.ownBlock QZ.ownBlock -> WG mb fv fe w ov r (fun v y w' => Wx M w' y v) e w' := by
 obtain ⟨QZ, h1, h2⟩ := h
 refine ⟨?_, QZ, h1, fun w ov hE => ⟨QZ, hE, h2⟩⟩
 cases r with
 | ok v st => obtain ⟨_, y, h3, _⟩ := h2; exact .inr ⟨y, h3⟩
 | stop o n st => exact .inl ⟨_, h2.2⟩
theorem PX {α : Type} {mb : Nat} {fv : Value} {w w' : World} {ov : Value} {r r' : WR α} {K : α -> Value -> World -> Prop} {e : Ending} (h : r = r') (x : WG mb fv fe w ov r' K e w') : WG mb fv fe w ov r K e w' := h ▸ x
theorem Rb {α : Type} {Q : α -> Prop} {lo : Int} {r : WR α} {v : α} {st : Xa} (h : ED fe Q lo r) (hr : r = .ok v st) : Q v /\ Nn fe lo st := by subst hr; exact h
theorem Xp {M : Nat -> Prop} {mb fb : Nat} {fv sv lv : Value} {ps : List Value} {k : Nat} {self : ZT} {loc : List ZT} {st : Xa} {ov : Value} {w : World} (hH : Hyp P fl fe B M mb fv k self loc st ov w) (hF : Yk M w fb sv lv ps self loc) (hst : st.steps ≠ fe) (hfe : fe <= 1048576) (op n : Int) (s : ByteArray) (v : Value) (z : World) (hz : w.alloc (.cells #[.int .i64 op, .int .i64 n, .string s, v] 36) = z) :
 ∃ W1, Hid ((z.setCell ⟨mb, 2, none⟩ (.int .i64 (st.steps + 1))).drew = W1) /\ mb < w.heap.size /\ z.cell? ⟨mb, 1, none⟩ = some (.int .i64 fe) /\ z.cell? ⟨mb, 2, none⟩ = some (.int .i64 st.steps) /\ z.frozen? ⟨mb, 2, none⟩ = false /\ z.cell? ⟨w.heap.size, 0, none⟩ = some (.int .i64 op) /\ 0 <= st.steps /\ st.steps <= 1048576 /\ IntKind.i64.wrap (st.steps + 1) = st.steps + 1 /\ (st.steps == fe) = false /\
  w.heap.size < W1.heap.size /\ Hid (Hyp P fl fe B M mb fv k self loc st ov w) /\ Hid (Hyp P fl fe B M mb fv k self loc st.tick ov W1) /\ Hid (Em mb w W1 ov.ownBlock ov.ownBlock) /\ Hid (Yk M W1 fb sv lv ps self loc) /\ Hid (W1.heap[w.heap.size]? = some (.cells #[.int .i64 op, .int .i64 n, .string s, v] 36 (0, 0))) := by
 subst hz
 obtain ⟨_, m1, m2, _⟩ := (hH.Vd.free (Z8 w (.cells #[.int .i64 op, .int .i64 n, .string s, v] 36))).cells
 have hl := hH.le
 have h0 := hH.s0
 obtain ⟨a1, a2, a3, a4⟩ := xY hH hst #[.int .i64 op, .int .i64 n, .string s, v] _ rfl
 exact ⟨_, Z9 rfl, Z6 hH.Vd.blk, m1, m2, Lib.frozen_of_heap (hH.Vd.free (Z8 w (.cells #[.int .i64 op, .int .i64 n, .string s, v] 36))).blk 2, (ZP (ZV w _)).1, h0, by omega, YJ _ (by omega) (by omega), by simpa using hst, a4, Z9 hH, Z9 a1, Z9 a2, Z9 (hF.kept (hH.Vd.Od a2)), Z9 a3⟩
theorem Ag {M : Nat -> Prop} {mb : Nat} {fv : Value} {w W1 w' : World} {ov ov1 : Value} {st : Xa} {v : ZT} {e : Ending} (hE : Em mb w W1 ov.ownBlock ov1.ownBlock) (hM : RZ W1 mb fv fe st ov1) (hm : ∀ b, M b -> b < W1.heap.size) (h : EF W1 v e w') : WG mb fv fe w ov (.ok v st) (fun v y w' => Wx M w' y v) e w' := by
 obtain ⟨y, rfl, h1, h2⟩ := h
 exact ⟨ov1, hE.trans (Em.free h2), hM.free h2, y, rfl, h1 M hm⟩
theorem Mg {M : Nat -> Prop} {mb : Nat} {fv : Value} {w W1 w' : World} {ov ov1 : Value} {st : Xa} {v : ZT} {y : Value} (hE : Em mb w W1 ov.ownBlock ov1.ownBlock) (hM : RZ W1 mb fv fe st ov1) (hg : W1.grownBy w' none) (h : Wx M W1 y v) : WG mb fv fe w ov (.ok v st) (fun v y w' => Wx M w' y v) (.returned y) w' :=
 ⟨ov1, hE.trans (Em.free hg), hM.free hg, y, rfl, h.kept (YS hg)⟩
theorem RA {α : Type} {mb : Nat} {fv : Value} {w W1 w' : World} {ov ov1 : Value} {st : Xa} {o n : Int} (hE : Em mb w W1 ov.ownBlock ov1.ownBlock) (hM : RZ W1 mb fv fe st ov1) (hg : W1.grownBy w' none) (K : α -> Value -> World -> Prop) : WG mb fv fe w ov (.stop o n st : WR α) K (.panicked (Wn o n)) w' :=
 ⟨ov1, hE.trans (Em.free hg), hM.free hg, rfl⟩
theorem KH {M : Nat -> Prop} {w : World} {op n : Int} {y : Value} {vs : List ZT} (h : Q6 M w y vs) (hl : vs.length <= 1000000) (hm : ∀ b, M b -> b < w.heap.size) : Wx M (w.alloc (.cells (Y9 op n ⟨#[]⟩ y) 83)) (.pointer (some ⟨w.heap.size, 0, none⟩)) (.mk op n ⟨#[]⟩ vs) := by
 obtain ⟨ps, h1, h2, h3⟩ := h
 have hg := Z8 w (.cells (Y9 op n ⟨#[]⟩ y) 83)
 exact .mk (Zn w _) (fun h => Nat.lt_irrefl _ (hm _ h)) (h1.kept (YS hg)) h2 hl fun i hi => (h3 i hi).kept (YS hg)
theorem Wz {op n : Int} {s : ByteArray} {lv : Value} {l : List Z0} {self : ZT} {loc : List ZT} {st : Xa} (hst : st.steps ≠ fe) (h13 : op ≠ 13) (h9 : op ≠ 9) (h11 : op ≠ 11) (h25 : op ≠ 25) : Y1 fl fe (g + 1) (.mk op n s lv l) self loc st = Vw (Sy (fun x st => Y1 fl fe g x self loc st) l st.tick) fun vs st => Tt op n s self loc vs st := by
 rw [Y1, Z7 hst, Z7 h13, Z7 h9, Z7 h11]
 simp only [Z7 h25]
theorem oK (HE : VW P fl fe B g) (hP : Ctx P fl) (M : Nat -> Prop) (mb : Nat) (fv : Value) (k : Nat) (self : ZT) (loc : List ZT) (st : Xa) (ov : Value) (w : World) (n : Int) (s : ByteArray) (xv : Value) (l : List Z0) (fb : Nat) (sv lv : Value) (ps : List Value)
 (hH : Hyp P fl fe B M mb fv k self loc st ov w) (hF : Yk M w fb sv lv ps self loc) (hX : Y0 B w (.mk 2 n s xv l)) (hf : ZI (fl.getD k default).caps (YM fl) loc.length (.mk 2 n s xv l) = true) (ht : ∀ y ∈ YK (.mk 2 n s xv l), y ∈ P.texts) (hg : fe - st.steps < (g + 1 : Nat)) (hfe : fe <= 1048576) (hst : st.steps ≠ fe) :
 Calls Tryz.prog 61 #[.pointer (some ⟨mb, 0, none⟩), Ws (.mk 2 n s xv l), .pointer (some ⟨fb, 0, none⟩)] w (WG mb fv fe w ov (Y1 fl fe (g + 1) (.mk 2 n s xv l) self loc st) fun v y w' => Wx M w' y v) := by
 obtain ⟨hfm, hfp⟩ := Za hf
 obtain ⟨Xy, _, Rz⟩ := hX.parts
 obtain ⟨xa, xc, rfl, hxc⟩ := id Xy
 rw [ZE]
 have hl0 := (NS hfm).1
 simp only [Y7, Bool.and_eq_true, decide_eq_true_eq] at hl0
 obtain rfl : l = [] := List.eq_nil_of_length_eq_zero hl0.1
 rw [Wz hst (by decide) (by decide) (by decide) (by decide)]
 show Calls _ _ _ _ (WG mb fv fe w ov (.ok (ZT.mk 1 n ⟨#[]⟩ []) st.tick) _)
 rw [show ([] : List Z0).length = 0 from rfl]
 clear hl0
 obtain ⟨W1, hW1, hmb, m1, m2, fz, x0, hs0, hse, hwr, hne, L1, HH, H1, E1, F1, X1⟩ := Xp hH hF hst hfe 2 n s (.slice xa 0 xc) _ rfl
 clear hH hF hX hf ht hg hfe hst HE hP Xy Rz hfm hfp hxc
 go_in
 go_upto_region 1 with fail
 generalize w.alloc (.cells #[.int .i64 2, .int .i64 n, .string s, .slice xa 0 xc] 36) = W0 at *
 go_region
 go_upto_region 4 with fail
 rw [hW1.out]
 clear hW1 m1 m2 fz x0
 obtain ⟨x0, x1, x2, x3⟩ := ZP X1.out
 go_wp2
 go_ret
 exact Ag E1.out H1.out.Vd H1.out.m0 (RH W1 1 n ⟨#[]⟩)
theorem oJ (HE : VW P fl fe B g) (hP : Ctx P fl) (M : Nat -> Prop) (mb : Nat) (fv : Value) (k : Nat) (self : ZT) (loc : List ZT) (st : Xa) (ov : Value) (w : World) (n : Int) (s : ByteArray) (xv : Value) (l : List Z0) (fb : Nat) (sv lv : Value) (ps : List Value)
 (hH : Hyp P fl fe B M mb fv k self loc st ov w) (hF : Yk M w fb sv lv ps self loc) (hX : Y0 B w (.mk 3 n s xv l)) (hf : ZI (fl.getD k default).caps (YM fl) loc.length (.mk 3 n s xv l) = true) (ht : ∀ y ∈ YK (.mk 3 n s xv l), y ∈ P.texts) (hg : fe - st.steps < (g + 1 : Nat)) (hfe : fe <= 1048576) (hst : st.steps ≠ fe) :
 Calls Tryz.prog 61 #[.pointer (some ⟨mb, 0, none⟩), Ws (.mk 3 n s xv l), .pointer (some ⟨fb, 0, none⟩)] w (WG mb fv fe w ov (Y1 fl fe (g + 1) (.mk 3 n s xv l) self loc st) fun v y w' => Wx M w' y v) := by
 obtain ⟨hfm, hfp⟩ := Za hf
 obtain ⟨Xy, _, Rz⟩ := hX.parts
 obtain ⟨xa, xc, rfl, hxc⟩ := id Xy
 rw [ZE]
 have hl0 := (Sd hfm).1
 simp only [Y7, Bool.and_eq_true, decide_eq_true_eq] at hl0
 obtain rfl : l = [] := List.eq_nil_of_length_eq_zero hl0.1
 rw [Wz hst (by decide) (by decide) (by decide) (by decide)]
 show Calls _ _ _ _ (WG mb fv fe w ov (.ok (ZT.mk 2 0 s []) st.tick) _)
 rw [show ([] : List Z0).length = 0 from rfl]
 clear hl0
 obtain ⟨W1, hW1, hmb, m1, m2, fz, x0, hs0, hse, hwr, hne, L1, HH, H1, E1, F1, X1⟩ := Xp hH hF hst hfe 3 n s (.slice xa 0 xc) _ rfl
 clear hH hF hX hf ht hg hfe hst HE hP Xy Rz hfm hfp hxc
 go_in
 go_upto_region 1 with fail
 generalize w.alloc (.cells #[.int .i64 3, .int .i64 n, .string s, .slice xa 0 xc] 36) = W0 at *
 go_region
 go_upto_region 4 with fail
 rw [hW1.out]
 clear hW1 m1 m2 fz x0
 obtain ⟨x0, x1, x2, x3⟩ := ZP X1.out
 go_wp2
 go_ret
 exact Ag E1.out H1.out.Vd H1.out.m0 (RH W1 2 0 s)
theorem su (HE : VW P fl fe B g) (hP : Ctx P fl) (M : Nat -> Prop) (mb : Nat) (fv : Value) (k : Nat) (self : ZT) (loc : List ZT) (st : Xa) (ov : Value) (w : World) (n : Int) (s : ByteArray) (xv : Value) (l : List Z0) (fb : Nat) (sv lv : Value) (ps : List Value)
 (hH : Hyp P fl fe B M mb fv k self loc st ov w) (hF : Yk M w fb sv lv ps self loc) (hX : Y0 B w (.mk 21 n s xv l)) (hf : ZI (fl.getD k default).caps (YM fl) loc.length (.mk 21 n s xv l) = true) (ht : ∀ y ∈ YK (.mk 21 n s xv l), y ∈ P.texts) (hg : fe - st.steps < (g + 1 : Nat)) (hfe : fe <= 1048576) (hst : st.steps ≠ fe) :
 Calls Tryz.prog 61 #[.pointer (some ⟨mb, 0, none⟩), Ws (.mk 21 n s xv l), .pointer (some ⟨fb, 0, none⟩)] w (WG mb fv fe w ov (Y1 fl fe (g + 1) (.mk 21 n s xv l) self loc st) fun v y w' => Wx M w' y v) := by
 obtain ⟨hfm, hfp⟩ := Za hf
 obtain ⟨Xy, _, Rz⟩ := hX.parts
 obtain ⟨xa, xc, rfl, hxc⟩ := id Xy
 rw [ZE]
 have hl0 := (Qw hfm).1
 simp only [Y7, Bool.and_eq_true, decide_eq_true_eq] at hl0
 obtain rfl : l = [] := List.eq_nil_of_length_eq_zero hl0.1
 rw [Wz hst (by decide) (by decide) (by decide) (by decide)]
 show Calls _ _ _ _ (WG mb fv fe w ov (.ok (loc.getD n.toNat default) st.tick) _)
 rw [show ([] : List Z0).length = 0 from rfl]
 obtain ⟨m, rfl⟩ : ∃ m : Nat, n = m := ⟨n.toNat, by omega⟩
 have hml : m < loc.length := by omega
 rw [Int.toNat_natCast]
 clear hl0
 obtain ⟨W1, hW1, hmb, m1, m2, fz, x0, hs0, hse, hwr, hne, L1, HH, H1, E1, F1, X1⟩ := Xp hH hF hst hfe 21 (m : Int) s (.slice xa 0 xc) _ rfl
 clear hH hF hX hf ht hg hfe hst HE hP Xy Rz hfm hfp hxc
 go_in
 go_upto_region 1 with fail
 generalize w.alloc (.cells #[.int .i64 21, .int .i64 (m : Int), .string s, .slice xa 0 xc] 36) = W0 at *
 go_region
 go_upto_region 4 with fail
 rw [hW1.out]
 clear hW1 m1 m2 fz x0
 obtain ⟨x0, x1, x2, x3⟩ := ZP X1.out
 obtain ⟨lb, lo, c, hlv, _, hc⟩ := Sk F1.out.row m (by rw [F1.out.len]; omega)
 rw [F1.out.len] at hlv
 subst hlv
 have Ll := F1.out.blk
 have q1 : W1.cell? ⟨fb, 1, none⟩ = some (.slice (some ⟨lb, lo, none⟩) loc.length c) := by simp [World.cell?, Ll]
 have hP0 := F1.out.all m (by omega)
 obtain ⟨yb, _, _, hy, _⟩ := id hP0.open
 rw [hy] at hc hP0
 have hmi : (m : Int) < ((loc.length : Nat) : Int) := by omega
 go_wp2_with fail
 go_region
 go_wp2
 go_ret
 exact Mg E1.out H1.out.Vd (Z4 W1) hP0
theorem sj (HE : VW P fl fe B g) (hP : Ctx P fl) (M : Nat -> Prop) (mb : Nat) (fv : Value) (k : Nat) (self : ZT) (loc : List ZT) (st : Xa) (ov : Value) (w : World) (n : Int) (s : ByteArray) (xv : Value) (l : List Z0) (fb : Nat) (sv lv : Value) (ps : List Value)
 (hH : Hyp P fl fe B M mb fv k self loc st ov w) (hF : Yk M w fb sv lv ps self loc) (hX : Y0 B w (.mk 22 n s xv l)) (hf : ZI (fl.getD k default).caps (YM fl) loc.length (.mk 22 n s xv l) = true) (ht : ∀ y ∈ YK (.mk 22 n s xv l), y ∈ P.texts) (hg : fe - st.steps < (g + 1 : Nat)) (hfe : fe <= 1048576) (hst : st.steps ≠ fe) :
 Calls Tryz.prog 61 #[.pointer (some ⟨mb, 0, none⟩), Ws (.mk 22 n s xv l), .pointer (some ⟨fb, 0, none⟩)] w (WG mb fv fe w ov (Y1 fl fe (g + 1) (.mk 22 n s xv l) self loc st) fun v y w' => Wx M w' y v) := by
 obtain ⟨hfm, hfp⟩ := Za hf
 obtain ⟨Xy, _, Rz⟩ := hX.parts
 obtain ⟨xa, xc, rfl, hxc⟩ := id Xy
 rw [ZE]
 have hl0 := (Mv hfm).1
 simp only [Y7, Bool.and_eq_true, decide_eq_true_eq] at hl0
 obtain rfl : l = [] := List.eq_nil_of_length_eq_zero hl0.1
 rw [Wz hst (by decide) (by decide) (by decide) (by decide)]
 show Calls _ _ _ _ (WG mb fv fe w ov (.ok self st.tick) _)
 rw [show ([] : List Z0).length = 0 from rfl]
 clear hl0
 obtain ⟨W1, hW1, hmb, m1, m2, fz, x0, hs0, hse, hwr, hne, L1, HH, H1, E1, F1, X1⟩ := Xp hH hF hst hfe 22 n s (.slice xa 0 xc) _ rfl
 clear hH hF hX hf ht hg hfe hst HE hP Xy Rz hfm hfp hxc
 go_in
 go_upto_region 1 with fail
 generalize w.alloc (.cells #[.int .i64 22, .int .i64 n, .string s, .slice xa 0 xc] 36) = W0 at *
 go_region
 go_upto_region 4 with fail
 rw [hW1.out]
 clear hW1 m1 m2 fz x0
 obtain ⟨x0, x1, x2, x3⟩ := ZP X1.out
 have Ll := F1.out.blk
 have hP0 := F1.out.fn
 obtain ⟨yb, _, _, rfl, _⟩ := id hP0.open
 have q0 : W1.cell? ⟨fb, 0, none⟩ = some (.pointer (some ⟨yb, 0, none⟩)) := by simp [World.cell?, Ll]
 go_wp2
 go_ret
 exact Mg E1.out H1.out.Vd (Yb W1 none) hP0
theorem rZ (HE : VW P fl fe B g) (hP : Ctx P fl) (M : Nat -> Prop) (mb : Nat) (fv : Value) (k : Nat) (self : ZT) (loc : List ZT) (st : Xa) (ov : Value) (w : World) (n : Int) (s : ByteArray) (xv : Value) (l : List Z0) (fb : Nat) (sv lv : Value) (ps : List Value)
 (hH : Hyp P fl fe B M mb fv k self loc st ov w) (hF : Yk M w fb sv lv ps self loc) (hX : Y0 B w (.mk 23 n s xv l)) (hf : ZI (fl.getD k default).caps (YM fl) loc.length (.mk 23 n s xv l) = true) (ht : ∀ y ∈ YK (.mk 23 n s xv l), y ∈ P.texts) (hg : fe - st.steps < (g + 1 : Nat)) (hfe : fe <= 1048576) (hst : st.steps ≠ fe) :
 Calls Tryz.prog 61 #[.pointer (some ⟨mb, 0, none⟩), Ws (.mk 23 n s xv l), .pointer (some ⟨fb, 0, none⟩)] w (WG mb fv fe w ov (Y1 fl fe (g + 1) (.mk 23 n s xv l) self loc st) fun v y w' => Wx M w' y v) := by
 obtain ⟨hfm, hfp⟩ := Za hf
 obtain ⟨Xy, _, Rz⟩ := hX.parts
 obtain ⟨xa, xc, rfl, hxc⟩ := id Xy
 rw [ZE]
 have hl0 := (Qv hfm).1
 simp only [Y7, Bool.and_eq_true, decide_eq_true_eq] at hl0
 obtain rfl : l = [] := List.eq_nil_of_length_eq_zero hl0.1
 rw [Wz hst (by decide) (by decide) (by decide) (by decide)]
 show Calls _ _ _ _ (WG mb fv fe w ov (.ok (self.l.getD n.toNat default) st.tick) _)
 rw [show ([] : List Z0).length = 0 from rfl]
 have hcap := hH.hfn.caps
 obtain ⟨m, rfl⟩ : ∃ m : Nat, n = m := ⟨n.toNat, by omega⟩
 have hml : m < self.l.length := by omega
 clear hcap
 rw [Int.toNat_natCast]
 clear hl0
 obtain ⟨W1, hW1, hmb, m1, m2, fz, x0, hs0, hse, hwr, hne, L1, HH, H1, E1, F1, X1⟩ := Xp hH hF hst hfe 23 (m : Int) s (.slice xa 0 xc) _ rfl
 clear hH hF hX hf ht hg hfe hst HE hP Xy Rz hfm hfp hxc
 go_in
 go_upto_region 1 with fail
 generalize w.alloc (.cells #[.int .i64 23, .int .i64 (m : Int), .string s, .slice xa 0 xc] 36) = W0 at *
 go_region
 go_upto_region 4 with fail
 rw [hW1.out]
 clear hW1 m1 m2 fz x0
 obtain ⟨x0, x1, x2, x3⟩ := ZP X1.out
 have Ll := F1.out.blk
 have hP0 := F1.out.fn
 obtain ⟨sb, slv, sps, rfl, hsb, _, hsr, hsl, _, hsk⟩ := id hP0.open
 have q0 : W1.cell? ⟨fb, 0, none⟩ = some (.pointer (some ⟨sb, 0, none⟩)) := by simp [World.cell?, Ll]
 obtain ⟨lb, lo, c, rfl, _, hc⟩ := Sk hsr m (by rw [hsl]; exact hml)
 rw [hsl] at hsb
 obtain ⟨_, _, _, q3⟩ := YV hsb
 have hP1 := hsk m hml
 obtain ⟨yb, _, _, hy, _⟩ := id hP1.open
 rw [hy] at hc hP1
 have hmi : (m : Int) < ((self.l.length : Nat) : Int) := by omega
 go_wp2_with fail
 go_region
 go_wp2
 go_ret
 exact Mg E1.out H1.out.Vd (Z4 W1) hP1
theorem rY (HE : VW P fl fe B g) (hP : Ctx P fl) (M : Nat -> Prop) (mb : Nat) (fv : Value) (k : Nat) (self : ZT) (loc : List ZT) (st : Xa) (ov : Value) (w : World) (n : Int) (s : ByteArray) (xv : Value) (l : List Z0) (fb : Nat) (sv lv : Value) (ps : List Value)
 (hH : Hyp P fl fe B M mb fv k self loc st ov w) (hF : Yk M w fb sv lv ps self loc) (hX : Y0 B w (.mk 13 n s xv l)) (hf : ZI (fl.getD k default).caps (YM fl) loc.length (.mk 13 n s xv l) = true) (ht : ∀ y ∈ YK (.mk 13 n s xv l), y ∈ P.texts) (hg : fe - st.steps < (g + 1 : Nat)) (hfe : fe <= 1048576) (hst : st.steps ≠ fe) :
 Calls Tryz.prog 61 #[.pointer (some ⟨mb, 0, none⟩), Ws (.mk 13 n s xv l), .pointer (some ⟨fb, 0, none⟩)] w (WG mb fv fe w ov (Y1 fl fe (g + 1) (.mk 13 n s xv l) self loc st) fun v y w' => Wx M w' y v) := by
 obtain ⟨hfm, hfp⟩ := Za hf
 obtain ⟨Xy, _, Rz⟩ := hX.parts
 obtain ⟨xa, xc, rfl, hxc⟩ := id Xy
 rw [ZE]
 rw [Y1, Z7 hst, ZY rfl]
 obtain ⟨W1, hW1, hmb, m1, m2, fz, x0, hs0, hse, hwr, hne, L1, HH, H1, E1, F1, X1⟩ := Xp hH hF hst hfe 13 n s (.slice xa l.length xc) _ rfl
 clear hH hF hX hf ht hg hfe hst HE hP Xy Rz hfm hfp hxc
 go_in
 go_upto_region 1 with fail
 generalize w.alloc (.cells #[.int .i64 13, .int .i64 n, .string s, .slice xa l.length xc] 36) = W0 at *
 go_region
 go_upto_region 4 with fail
 rw [hW1.out]
 clear hW1 m1 m2 fz x0
 obtain ⟨x0, x1, x2, x3⟩ := ZP X1.out
 go_wp2_with (go_at_call 62; refine (Xz _ _ _).mono ?_; rintro e w' ⟨rfl, rfl⟩)
 exact ⟨rfl, RA E1.out H1.out.Vd (Yb _ _) _⟩
end
section
variable {P : Zz} {fl : List ZJ} {fe : Int} {B g : Nat}
theorem rX {n : Int} {s : ByteArray} {self : ZT} {loc vs : List ZT} {st : Xa} : Tt 12 n s self loc vs st = Sm n vs st := by
 unfold Tt
 rw [Z7 (by decide), Z7 (by decide), Z7 (by decide), Z7 (by decide), Z7 (by decide), Z7 (by decide), Z7 (by decide), Z7 (by decide), Z7 (by decide)]
theorem BN {n : Int} {s : ByteArray} {lv : Value} {l : List Z0} {self : ZT} {loc : List ZT} {st : Xa} (hst : st.steps ≠ fe) : Y1 fl fe (g + 1) (.mk 25 n s lv l) self loc st = Vw (Sy (fun x st => Y1 fl fe g x self loc st) l st.tick) fun vs st =>
 if (vs.headD default).op = 7 then Y1 fl fe g (fl.getD (vs.headD default).n.toNat default).body (vs.headD default) [vs.getD 1 default] st else .stop 4 0 st := by
 rw [Y1, Z7 hst, Z7 (by decide), Z7 (by decide), Z7 (by decide)]
 congr 1
theorem BM {M : Nat -> Prop} {w w' : World} {lb lo n c : Nat} {vs : List ZT} (h : Q6 M w (.slice (some ⟨lb, lo, none⟩) n c) vs) (hn : 0 < n) (k : Sl M w w') (j : Nat) : w'.cell? ⟨lb, j, none⟩ = w.cell? ⟨lb, j, none⟩ := by
 obtain ⟨ps, ⟨a, c', e, _, _, hr⟩, _, _⟩ := h
 obtain ⟨rfl, e2, _⟩ := Value.slice.inj e
 obtain ⟨b, off, cur, e3, hm, hb, _⟩ := hr (by omega)
 obtain ⟨rfl, _, _⟩ := Addr.mk.inj (Option.some.inj e3)
 unfold World.cell?
 rw [k lb cur _ (.inr (.inl rfl)) hb hm]
theorem eB {P : Zz} {v : ZT} (h : VG P v) : Ig v.op = 5 ↔ v.op = 7 := by
 have := h.op5
 unfold Ig
 constructor
 ·intro e; split at e
  ·assumption
  ·exact absurd e this
 ·intro e; rw [ZY e]
theorem rW (HE : VW P fl fe B g) (hP : Ctx P fl) (M : Nat -> Prop) (mb : Nat) (fv : Value) (k : Nat) (self : ZT) (loc : List ZT) (st : Xa) (ov : Value) (w : World) (n : Int) (s : ByteArray) (xv : Value) (l : List Z0) (fb : Nat) (sv lv : Value) (ps : List Value)
 (hH : Hyp P fl fe B M mb fv k self loc st ov w) (hF : Yk M w fb sv lv ps self loc) (hX : Y0 B w (.mk 12 n s xv l)) (hf : ZI (fl.getD k default).caps (YM fl) loc.length (.mk 12 n s xv l) = true) (ht : ∀ y ∈ YK (.mk 12 n s xv l), y ∈ P.texts) (hg : fe - st.steps < (g + 1 : Nat)) (hfe : fe <= 1048576) (hst : st.steps ≠ fe) :
 Calls Tryz.prog 61 #[.pointer (some ⟨mb, 0, none⟩), Ws (.mk 12 n s xv l), .pointer (some ⟨fb, 0, none⟩)] w (WG mb fv fe w ov (Y1 fl fe (g + 1) (.mk 12 n s xv l) self loc st) fun v y w' => Wx M w' y v) := by
 obtain ⟨hfm, hfp⟩ := Za hf
 obtain ⟨Xy, _, Rz⟩ := hX.parts
 obtain ⟨xa, xc, rfl, hxc⟩ := id Xy
 rw [ZE]
 have hfl : ∀ y ∈ l, ZI (fl.getD k default).caps (YM fl) loc.length y = true := fun y hy => by
  obtain ⟨i, hi, rfl⟩ := List.mem_iff_getElem.1 hy; have a1 := hfp i hi; rw [show l.getD i default = l[i] by simp [List.getD, hi], WJ (by decide) (by decide)] at a1; exact a1
 have htl : ∀ t ∈ YW l, t ∈ P.texts := fun t hh => by rw [YG, Z7 (by decide)] at ht; exact ht t hh
 have hT : Nn fe st.steps st.tick := ⟨by show st.steps <= st.steps + 1; omega, by have := hH.le; show st.steps + 1 <= fe; omega, hH.out⟩
 have hfo := (Mw hfm).1
 simp only [Y7, Bool.and_eq_true, decide_eq_true_eq] at hfo
 have hll : l.length <= 1001 := by
  have h := (Tj n).2 (by unfold Y7; simp; omega); omega
 have hK := Ug (fe := fe) hH.hfn hH.ME l st.tick st.tick.steps (fun x _ => Wm hP g x) hfl htl ⟨Int.le_refl _, hT.2⟩
 have Om := Z9 (fun (W1 : World) (H1 : Hyp P fl fe B M mb fv k self loc st.tick ov W1) (F1 : Yk M W1 fb sv lv ps self loc) (hb : Below B w W1) => Vg hP HE M mb fv k self loc st.tick ov W1 fb sv lv ps l xa xc H1 F1 (Xy.kept hb.block) hll (fun y hy => (Rz y hy).under hb) hfl htl (by have : st.tick.steps = st.steps + 1 := rfl; omega))
 rw [Wz hst (by decide) (by decide) (by decide) (by decide)]
 simp only [rX]
 have hm0 := hH.m0
 generalize Sy (fun x st => Y1 fl fe g x self loc st) l st.tick = r at *
 have HK := Z9 hK
 have aaQ := Z9 (fun (vs : List ZT) (st2 : Xa) (hr : r = .ok vs st2) (W : World) (ov2 : Value) (y : Value) (H : Hyp P fl fe B M mb fv k self loc st2 ov2 W) (hy : Q6 M W y vs) => xZ H.Vd H.m0 H.out H.tab (Rb hK hr).1.1 hfo.1.1 hfo.1.2 (by rw [(Rb hK hr).1.2]; exact hfo.2) hy)
 obtain ⟨W1, hW1, hmb, m1, m2, fz, x0, hs0, hse, hwr, hne, L1, HH, H1, E1, F1, X1⟩ := Xp hH hF hst hfe 12 n s (.slice xa l.length xc) _ rfl
 clear hH hF hX hf ht hg hfe hst HE hP Xy Rz hfm hfp hxc hfl htl hT hK hfo
 go_in
 go_upto_region 1 with fail
 generalize w.alloc (.cells #[.int .i64 12, .int .i64 n, .string s, .slice xa l.length xc] 36) = W0 at *
 go_region
 go_upto_region 4 with fail
 rw [hW1.out]
 clear hW1 m1 m2 fz x0
 obtain ⟨x0, x1, x2, x3⟩ := ZP X1.out
 go_wp2_with fail
 have BL := Z9 (H1.out.free (Z4 W1))
 have ny := Z9 (F1.out.kept (YS (Z4 W1)))
 have H7 := Z9 (E1.out.trans (Em.free (Z4 W1)))
 have s0 : W1.drew.cell? ⟨w.heap.size, 1, none⟩ = some (.int .i64 n) /\ W1.drew.cell? ⟨w.heap.size, 3, none⟩ = some (.slice xa l.length xc) := ⟨x1, x3⟩
 refine XG (S := (fun w9 => w9.cell? ⟨w.heap.size, 1, none⟩ = some (.int .i64 n) /\ w9.cell? ⟨w.heap.size, 3, none⟩ = some (.slice xa l.length xc))) (by kernel_rfl) s0 (fun hHeld => ?_)
 refine tks (b := ?_) (by kernel_rfl) (fun _ _ _ _ _ h => h) s0 7 [0, 1, 2, 3, 4, 5, 6] (by kernel_rfl) ?_ ?_
 rotate_left
 ·iterate 7 (refine yc (v := ?_) rfl rfl (by rfl) (fun w9 hSw => ?_) ?_; rotate_left; (focus go_simp; try rfl); simp only [Act.put, Zj, Zi, Zh])
  exact rfl
 refine rd1 7 (by kernel_rfl) rfl fun K hK => ?_
 go_simp
 go_at_call 86
 refine (Om.out _ BL.out ny.out (HH.out.Vd.below H7.out HH.out.lo)).mono ?_
 rintro e w2 hA; rcases r with ⟨vs, st2⟩ | ⟨o, m, st2⟩; rotate_left; (obtain ⟨ov2, hE2, hM2, rfl⟩ := hA; exact ⟨rfl, ov2, H7.out.trans hE2, hM2, rfl⟩)
 obtain ⟨ov2, hE2, hM2, y, rfl, hy⟩ := hA
 have HB2 := Z9 (BL.out.Vd.hold hE2 X1.out (by decide) (by decide))
 obtain ⟨z0, z1, z2, z3⟩ := ZP HB2.out
 have s4 : w2.cell? ⟨w.heap.size, 1, none⟩ = some (.int .i64 n) /\ w2.cell? ⟨w.heap.size, 3, none⟩ = some (.slice xa l.length xc) := ⟨z1, z3⟩
 have jE := Z9 (aaQ.out _ _ rfl w2 ov2 y (BL.out.step hE2 hM2 HK.out.2) hy)
 obtain ⟨qs, hR2, hl2, hk2⟩ := id hy
 obtain ⟨ya, yq, rfl, _⟩ := id hR2
 have E2 := Z9 (H7.out.trans hE2)
 have M2 := Z9 hM2
 clear hl2 hk2 hR2 hE2 hM2 hy
 refine hK.out _ _ s4 (fun _ => ?_)
 clear hK K
 refine rd1 8 (by kernel_rfl) rfl fun K hK => ?_
 go_simp
 go_at_call 89
 refine jE.out.mono ?_
 rintro e w3 hA; obtain ⟨he, ov3, hE3, hA⟩ := H9 hA; rcases he with ⟨c, rfl⟩ | ⟨y3, rfl⟩; (exact ⟨rfl, (hA _ _ (E2.out.trans hE3))⟩)
 obtain ⟨v0, v1, v2, v3⟩ := ZP (M2.out.hold hE3 HB2.out (by decide) (by decide))
 have s5 : w3.cell? ⟨w.heap.size, 1, none⟩ = some (.int .i64 n) /\ w3.cell? ⟨w.heap.size, 3, none⟩ = some (.slice xa l.length xc) := ⟨v1, v3⟩
 refine hK.out _ _ s5 (fun _ => ?_)
 clear hK K
 refine tks (b := ?_) (by kernel_rfl) (fun _ _ _ _ _ h => h) s5 1 [9] (by kernel_rfl) ?_ ?_
 rotate_left
 ·refine yc (v := ?_) rfl rfl (by rfl) (fun w9 hSw => ?_) ?_; rotate_left; (focus go_simp; try rfl); simp only [Act.put, Zj, Zi, Zh]
  exact rfl
 refine X3 (by kernel_rfl) ?_ _
 go_wp2
 go_ret
 exact hA _ _ (E2.out.trans hE3)
theorem rV (HE : VW P fl fe B g) (hP : Ctx P fl) (M : Nat -> Prop) (mb : Nat) (fv : Value) (k : Nat) (self : ZT) (loc : List ZT) (st : Xa) (ov : Value) (w : World) (n : Int) (s : ByteArray) (xv : Value) (l : List Z0) (fb : Nat) (sv lv : Value) (ps : List Value)
 (hH : Hyp P fl fe B M mb fv k self loc st ov w) (hF : Yk M w fb sv lv ps self loc) (hX : Y0 B w (.mk 25 n s xv l)) (hf : ZI (fl.getD k default).caps (YM fl) loc.length (.mk 25 n s xv l) = true) (ht : ∀ y ∈ YK (.mk 25 n s xv l), y ∈ P.texts) (hg : fe - st.steps < (g + 1 : Nat)) (hfe : fe <= 1048576) (hst : st.steps ≠ fe) :
 Calls Tryz.prog 61 #[.pointer (some ⟨mb, 0, none⟩), Ws (.mk 25 n s xv l), .pointer (some ⟨fb, 0, none⟩)] w (WG mb fv fe w ov (Y1 fl fe (g + 1) (.mk 25 n s xv l) self loc st) fun v y w' => Wx M w' y v) := by
 obtain ⟨hfm, hfp⟩ := Za hf
 obtain ⟨Xy, _, Rz⟩ := hX.parts
 obtain ⟨xa, xc, rfl, hxc⟩ := id Xy
 rw [ZE]
 have hfl : ∀ y ∈ l, ZI (fl.getD k default).caps (YM fl) loc.length y = true := fun y hy => by
  obtain ⟨i, hi, rfl⟩ := List.mem_iff_getElem.1 hy; have a1 := hfp i hi; rw [show l.getD i default = l[i] by simp [List.getD, hi], WJ (by decide) (by decide)] at a1; exact a1
 have htl : ∀ t ∈ YW l, t ∈ P.texts := fun t hh => by rw [YG, Z7 (by decide)] at ht; exact ht t hh
 have hT : Nn fe st.steps st.tick := ⟨by show st.steps <= st.steps + 1; omega, by have := hH.le; show st.steps + 1 <= fe; omega, hH.out⟩
 have hfo := (O5 hfm).1
 simp at hfo
 have HL2 := Z9 hfo.2
 have hll : l.length <= 1001 := by omega
 have hK := Ug (fe := fe) hH.hfn hH.ME l st.tick st.tick.steps (fun x _ => Wm hP g x) hfl htl ⟨Int.le_refl _, hT.2⟩
 have Om := Z9 (fun (W1 : World) (H1 : Hyp P fl fe B M mb fv k self loc st.tick ov W1) (F1 : Yk M W1 fb sv lv ps self loc) (hb : Below B w W1) => Vg hP HE M mb fv k self loc st.tick ov W1 fb sv lv ps l xa xc H1 F1 (Xy.kept hb.block) hll (fun y hy => (Rz y hy).under hb) hfl htl (by have : st.tick.steps = st.steps + 1 := rfl; omega))
 rw [BN hst]
 have hm0 := hH.m0
 generalize Sy (fun x st => Y1 fl fe g x self loc st) l st.tick = r at *
 have HK := Z9 hK
 have bA := Z9 (fun (a b : ZT) (st2 : Xa) (hr : r = .ok [a, b] st2) (h7 : a.op = 7) (W : World) (ov2 : Value) (pa pb : Value) (H : Hyp P fl fe B M mb fv k self loc st2 ov2 W) (hA : Wx M W pa a) (hB : Wx M W pb b) => Ju hP HE M mb fv k self loc st2 ov2 W pa pb a b H hA hB ((Rb hK hr).1.1 a (by simp)) ((Rb hK hr).1.1 b (by simp)) h7 (by have := (Rb hK hr).2.1; have : st.tick.steps = st.steps + 1 := rfl; omega))
 obtain ⟨W1, hW1, hmb, m1, m2, fz, x0, hs0, hse, hwr, hne, L1, HH, H1, E1, F1, X1⟩ := Xp hH hF hst hfe 25 n s (.slice xa l.length xc) _ rfl
 clear hH hF hX hf ht hg hfe hst HE hP Xy Rz hfm hfp hxc hfl htl hT hK hfo
 go_in
 go_upto_region 1 with fail
 generalize w.alloc (.cells #[.int .i64 25, .int .i64 n, .string s, .slice xa l.length xc] 36) = W0 at *
 go_region
 go_upto_region 4 with fail
 rw [hW1.out]
 clear hW1 m1 m2 fz x0
 obtain ⟨x0, x1, x2, x3⟩ := ZP X1.out
 go_wp2_with (go_at_call 86; refine (Om.out _ H1.out F1.out (HH.out.Vd.below E1.out HH.out.lo)).mono ?_; rintro e w2 hA; rcases r with ⟨vs, st2⟩ | ⟨o, m, st2⟩; rotate_left; (obtain ⟨ov2, hE2, hM2, rfl⟩ := hA; exact ⟨rfl, ov2, E1.out.trans hE2, hM2, rfl⟩); obtain ⟨ov2, hE2, hM2, y, rfl, hy⟩ := hA; obtain ⟨a, b, rfl⟩ := O8 (HK.out.1.2.trans HL2.out); obtain ⟨lb, lo, c, ab, bb, UA, Qj, rfl, T⟩ := sH hy; have HY := Z9 hy; have HT := Z9 T; have E2 := Z9 (E1.out.trans hE2); have M2 := Z9 hM2; have H2 := Z9 (H1.out.step hE2 hM2 HK.out.2); clear hE2 hM2 hy T)
 have s0 : w2.drew.cell? ⟨lb, lo, none⟩ = some (.pointer (some ⟨ab, 0, none⟩)) /\ w2.drew.cell? ⟨lb, lo + 1, none⟩ = some (.pointer (some ⟨bb, 0, none⟩)) := ⟨HT.out.l0, HT.out.l1⟩
 have hsa := eB (HK.out.1.1 a (by simp))
 have HW := Z9 (RD (HT.out.pa.kept (YS (Z4 w2))) 5)
 have pz := Z9 (fun (w3 : World) (ov3 : Value) (hE3 : Em mb w2.drew w3 ov2.ownBlock ov3.ownBlock) => BM HY.out (by decide) ((YS (Z4 w2)).trans ((M2.out.free (Z4 w2)).Od hE3)))
 refine XG (S := (fun w9 => w9.cell? ⟨lb, lo, none⟩ = some (.pointer (some ⟨ab, 0, none⟩)) /\ w9.cell? ⟨lb, lo + 1, none⟩ = some (.pointer (some ⟨bb, 0, none⟩)))) (by kernel_rfl) s0 (fun hHeld => ?_)
 refine tks (b := ?_) (by kernel_rfl) (fun _ _ _ _ _ h => h) s0 7 [0, 1, 2, 3, 5, 6, 7] (by kernel_rfl) ?_ ?_
 rotate_left
 ·iterate 7 (refine yc (v := ?_) rfl rfl (by rfl) (fun w9 hSw => ?_) ?_; rotate_left; (focus go_simp; try rfl); simp only [Act.put, Zj, Zi, Zh])
  exact rfl
 refine rd1 4 (by kernel_rfl) rfl fun K hK => ?_
 go_simp
 go_at_call 87
 refine HW.out.mono ?_
 rintro e w3 ⟨rfl, h1, h2⟩
 by_cases h7 : a.op = 7
 rotate_left
 ·obtain rfl := h2 fun e => h7 (hsa.1 e)
  exact ⟨rfl, PX (Z7 h7) (RA E2.out M2.out (Z4 w2) _)⟩
 obtain rfl := h1 (hsa.2 h7)
 have HC := Z9 (bA.out _ _ _ rfl h7 w2.drew ov2 _ _ (H2.out.free (Z4 w2)) (HT.out.pa.kept (YS (Z4 w2))) (HT.out.pb.kept (YS (Z4 w2))))
 refine hK.out _ _ s0 (fun _ => ?_)
 clear hK K
 refine rd1 8 (by kernel_rfl) rfl fun K hK => ?_
 go_simp
 go_at_call 30
 refine HC.out.mono ?_
 rintro e w3 hA; obtain ⟨he, ov3, hE3, hA⟩ := H9 hA; rcases he with ⟨c, rfl⟩ | ⟨y3, rfl⟩; (exact ⟨rfl, PX (ZY h7) (hA _ _ ((E2.out.trans (Em.free (Z4 w2))).trans hE3))⟩)
 have s5 : w3.cell? ⟨lb, lo, none⟩ = some (.pointer (some ⟨ab, 0, none⟩)) /\ w3.cell? ⟨lb, lo + 1, none⟩ = some (.pointer (some ⟨bb, 0, none⟩)) := ⟨(pz.out w3 ov3 hE3 lo).trans s0.1, (pz.out w3 ov3 hE3 (lo + 1)).trans s0.2⟩
 refine hK.out _ _ s5 (fun _ => ?_)
 clear hK K
 refine tks (b := ?_) (by kernel_rfl) (fun _ _ _ _ _ h => h) s5 1 [9] (by kernel_rfl) ?_ ?_
 rotate_left
 ·refine yc (v := ?_) rfl rfl (by rfl) (fun w9 hSw => ?_) ?_; rotate_left; (focus go_simp; try rfl); simp only [Act.put, Zj, Zi, Zh]
  exact rfl
 refine X3 (by kernel_rfl) ?_ _
 go_wp2
 go_ret
 exact PX (ZY h7) (hA _ _ ((E2.out.trans (Em.free (Z4 w2))).trans hE3))
end
section
variable {P : Zz} {fl : List ZJ} {fe : Int} {B g : Nat}
theorem bn {n : Int} {s : ByteArray} {self : ZT} {loc vs : List ZT} {st : Xa} : Tt 6 n s self loc vs st = .ok (.mk 3 0 ⟨#[]⟩ vs) st := rfl
theorem oI {n : Int} {s : ByteArray} {self : ZT} {loc vs : List ZT} {st : Xa} : Tt 8 n s self loc vs st = .ok (.mk 4 n ⟨#[]⟩ vs) st := by
 unfold Tt
 rw [Z7 (by decide), Z7 (by decide), Z7 (by decide), Z7 (by decide), Z7 (by decide), Z7 (by decide), Z7 (by decide), ZY rfl]
theorem rU {n : Int} {s : ByteArray} {self : ZT} {loc vs : List ZT} {st : Xa} : Tt 24 n s self loc vs st = .ok (.mk 7 n ⟨#[]⟩ vs) st := by
 unfold Tt
 rw [Z7 (by decide), Z7 (by decide), Z7 (by decide), Z7 (by decide), Z7 (by decide), Z7 (by decide), Z7 (by decide), Z7 (by decide), ZY rfl]
theorem SF {w W : World} {qb qo c : Nat} {l : List Z0} (hR : Uu B w (.slice (some ⟨qb, qo, none⟩) l.length c) l.length (ZR l)) (hb : Below B w W) (k : Nat) (hk : k < l.length) :
 W.cell? ⟨qb, qo + k * 4, none⟩ = some (.int .i64 (l.getD k default).op) /\ W.cell? ⟨qb, qo + k * 4 + 1, none⟩ = some (.int .i64 (l.getD k default).n) /\ W.cell? ⟨qb, qo + k * 4 + 2, none⟩ = some (.string (l.getD k default).s) /\ W.cell? ⟨qb, qo + k * 4 + 3, none⟩ = some (l.getD k default).lv := by
 obtain ⟨b, off, e, _, c0, c1, c2, c3⟩ := XY hR hb k hk
 obtain ⟨rfl, rfl, _⟩ := Addr.mk.inj (Option.some.inj e)
 exact ⟨c0, c1, c2, c3⟩
theorem Nj {w : World} {a : Option Addr} {c : Nat} {l : List Z0} (hR : Uu B w (.slice a l.length c) l.length (ZR l)) (hk : 0 < l.length) : ∃ qb qo, a = some ⟨qb, qo, none⟩ := by
 obtain ⟨b, off, e, _⟩ := XY hR (Below.refl B w) 0 hk
 exact ⟨b, off, e⟩
theorem rT (f : Z0 -> Xa -> WR ZT) (x : Z0) (st : Xa) : Sy f [x] st = Vw (f x st) fun v st => .ok [v] st := by
 rw [Sy]; cases f x st <;> rfl
theorem oH (HE : VW P fl fe B g) (hP : Ctx P fl) (M : Nat -> Prop) (mb : Nat) (fv : Value) (k : Nat) (self : ZT) (loc : List ZT) (st : Xa) (ov : Value) (w : World) (n : Int) (s : ByteArray) (xv : Value) (l : List Z0) (fb : Nat) (sv lv : Value) (ps : List Value)
 (hH : Hyp P fl fe B M mb fv k self loc st ov w) (hF : Yk M w fb sv lv ps self loc) (hX : Y0 B w (.mk 6 n s xv l)) (hf : ZI (fl.getD k default).caps (YM fl) loc.length (.mk 6 n s xv l) = true) (ht : ∀ y ∈ YK (.mk 6 n s xv l), y ∈ P.texts) (hg : fe - st.steps < (g + 1 : Nat)) (hfe : fe <= 1048576) (hst : st.steps ≠ fe) :
 Calls Tryz.prog 61 #[.pointer (some ⟨mb, 0, none⟩), Ws (.mk 6 n s xv l), .pointer (some ⟨fb, 0, none⟩)] w (WG mb fv fe w ov (Y1 fl fe (g + 1) (.mk 6 n s xv l) self loc st) fun v y w' => Wx M w' y v) := by
 obtain ⟨hfm, hfp⟩ := Za hf
 obtain ⟨Xy, _, Rz⟩ := hX.parts
 obtain ⟨xa, xc, rfl, hxc⟩ := id Xy
 rw [ZE]
 have hfl : ∀ y ∈ l, ZI (fl.getD k default).caps (YM fl) loc.length y = true := fun y hy => by
  obtain ⟨i, hi, rfl⟩ := List.mem_iff_getElem.1 hy; have a1 := hfp i hi; rw [show l.getD i default = l[i] by simp [List.getD, hi], WJ (by decide) (by decide)] at a1; exact a1
 have htl : ∀ t ∈ YW l, t ∈ P.texts := fun t hh => by rw [YG, Z7 (by decide)] at ht; exact ht t hh
 have hT : Nn fe st.steps st.tick := ⟨by show st.steps <= st.steps + 1; omega, by have := hH.le; show st.steps + 1 <= fe; omega, hH.out⟩
 have hll : l.length <= 1001 := by have h := (Jj hfm).1; simp at h; omega
 have hK := Ug (fe := fe) hH.hfn hH.ME l st.tick st.tick.steps (fun x _ => Wm hP g x) hfl htl ⟨Int.le_refl _, hT.2⟩
 have Om := Z9 (fun (W1 : World) (H1 : Hyp P fl fe B M mb fv k self loc st.tick ov W1) (F1 : Yk M W1 fb sv lv ps self loc) (hb : Below B w W1) => Vg hP HE M mb fv k self loc st.tick ov W1 fb sv lv ps l xa xc H1 F1 (Xy.kept hb.block) hll (fun y hy => (Rz y hy).under hb) hfl htl (by have : st.tick.steps = st.steps + 1 := rfl; omega))
 rw [Wz hst (by decide) (by decide) (by decide) (by decide)]
 simp only [bn]
 have hm0 := hH.m0
 generalize Sy (fun x st => Y1 fl fe g x self loc st) l st.tick = r at *
 have HK := Z9 hK
 obtain ⟨W1, hW1, hmb, m1, m2, fz, x0, hs0, hse, hwr, hne, L1, HH, H1, E1, F1, X1⟩ := Xp hH hF hst hfe 6 n s (.slice xa l.length xc) _ rfl
 clear hH hF hX hf ht hg hfe hst HE hP Xy Rz hfm hfp hxc hfl htl hT hK
 go_in
 go_upto_region 1 with fail
 generalize w.alloc (.cells #[.int .i64 6, .int .i64 n, .string s, .slice xa l.length xc] 36) = W0 at *
 go_region
 go_upto_region 4 with fail
 rw [hW1.out]
 clear hW1 m1 m2 fz x0
 obtain ⟨x0, x1, x2, x3⟩ := ZP X1.out
 go_wp2_with (go_at_call 86; refine (Om.out _ H1.out F1.out (HH.out.Vd.below E1.out HH.out.lo)).mono ?_; rintro e w2 hA; rcases r with ⟨vs, st2⟩ | ⟨o, m, st2⟩; rotate_left; (obtain ⟨ov2, hE2, hM2, rfl⟩ := hA; exact ⟨rfl, ov2, E1.out.trans hE2, hM2, rfl⟩); obtain ⟨ov2, hE2, hM2, y, rfl, hy⟩ := hA; obtain ⟨qs, hR2, hl2, hk2⟩ := id hy; obtain ⟨ya, yq, rfl, _⟩ := id hR2; clear hl2 hk2 hR2)
 go_ret
 have hgz := Z8 w2 (.cells (Y9 3 0 ⟨#[]⟩ (.slice ya qs.length yq)) 83)
 exact ⟨ov2, (E1.out.trans hE2).trans (Em.free hgz), hM2.free hgz, _, rfl, KH (op := 3) (n := 0) hy (by have := HK.out.1.2; omega) (fun b hb => by have := hm0 b hb; have := E1.out.size; have := hE2.size; omega)⟩
theorem oG (HE : VW P fl fe B g) (hP : Ctx P fl) (M : Nat -> Prop) (mb : Nat) (fv : Value) (k : Nat) (self : ZT) (loc : List ZT) (st : Xa) (ov : Value) (w : World) (n : Int) (s : ByteArray) (xv : Value) (l : List Z0) (fb : Nat) (sv lv : Value) (ps : List Value)
 (hH : Hyp P fl fe B M mb fv k self loc st ov w) (hF : Yk M w fb sv lv ps self loc) (hX : Y0 B w (.mk 8 n s xv l)) (hf : ZI (fl.getD k default).caps (YM fl) loc.length (.mk 8 n s xv l) = true) (ht : ∀ y ∈ YK (.mk 8 n s xv l), y ∈ P.texts) (hg : fe - st.steps < (g + 1 : Nat)) (hfe : fe <= 1048576) (hst : st.steps ≠ fe) :
 Calls Tryz.prog 61 #[.pointer (some ⟨mb, 0, none⟩), Ws (.mk 8 n s xv l), .pointer (some ⟨fb, 0, none⟩)] w (WG mb fv fe w ov (Y1 fl fe (g + 1) (.mk 8 n s xv l) self loc st) fun v y w' => Wx M w' y v) := by
 obtain ⟨hfm, hfp⟩ := Za hf
 obtain ⟨Xy, _, Rz⟩ := hX.parts
 obtain ⟨xa, xc, rfl, hxc⟩ := id Xy
 rw [ZE]
 have hfl : ∀ y ∈ l, ZI (fl.getD k default).caps (YM fl) loc.length y = true := fun y hy => by
  obtain ⟨i, hi, rfl⟩ := List.mem_iff_getElem.1 hy; have a1 := hfp i hi; rw [show l.getD i default = l[i] by simp [List.getD, hi], WJ (by decide) (by decide)] at a1; exact a1
 have htl : ∀ t ∈ YW l, t ∈ P.texts := fun t hh => by rw [YG, Z7 (by decide)] at ht; exact ht t hh
 have hT : Nn fe st.steps st.tick := ⟨by show st.steps <= st.steps + 1; omega, by have := hH.le; show st.steps + 1 <= fe; omega, hH.out⟩
 have hll : l.length <= 1001 := by have h := (L8 hfm).1; simp at h; omega
 have hK := Ug (fe := fe) hH.hfn hH.ME l st.tick st.tick.steps (fun x _ => Wm hP g x) hfl htl ⟨Int.le_refl _, hT.2⟩
 have Om := Z9 (fun (W1 : World) (H1 : Hyp P fl fe B M mb fv k self loc st.tick ov W1) (F1 : Yk M W1 fb sv lv ps self loc) (hb : Below B w W1) => Vg hP HE M mb fv k self loc st.tick ov W1 fb sv lv ps l xa xc H1 F1 (Xy.kept hb.block) hll (fun y hy => (Rz y hy).under hb) hfl htl (by have : st.tick.steps = st.steps + 1 := rfl; omega))
 rw [Wz hst (by decide) (by decide) (by decide) (by decide)]
 simp only [oI]
 have hm0 := hH.m0
 generalize Sy (fun x st => Y1 fl fe g x self loc st) l st.tick = r at *
 have HK := Z9 hK
 obtain ⟨W1, hW1, hmb, m1, m2, fz, x0, hs0, hse, hwr, hne, L1, HH, H1, E1, F1, X1⟩ := Xp hH hF hst hfe 8 n s (.slice xa l.length xc) _ rfl
 clear hH hF hX hf ht hg hfe hst HE hP Xy Rz hfm hfp hxc hfl htl hT hK
 go_in
 go_upto_region 1 with fail
 generalize w.alloc (.cells #[.int .i64 8, .int .i64 n, .string s, .slice xa l.length xc] 36) = W0 at *
 go_region
 go_upto_region 4 with fail
 rw [hW1.out]
 clear hW1 m1 m2 fz x0
 obtain ⟨x0, x1, x2, x3⟩ := ZP X1.out
 go_wp2_with fail
 have s0 : W1.drew.cell? ⟨w.heap.size, 1, none⟩ = some (.int .i64 n) /\ W1.drew.cell? ⟨w.heap.size, 3, none⟩ = some (.slice xa l.length xc) := ⟨x1, x3⟩
 have BL := Z9 (H1.out.free (Z4 W1))
 have ny := Z9 (F1.out.kept (YS (Z4 W1)))
 have H7 := Z9 (E1.out.trans (Em.free (Z4 W1)))
 refine XG (S := (fun w9 => w9.cell? ⟨w.heap.size, 1, none⟩ = some (.int .i64 n) /\ w9.cell? ⟨w.heap.size, 3, none⟩ = some (.slice xa l.length xc))) (by kernel_rfl) s0 (fun hHeld => ?_)
 refine tks (b := ?_) (by kernel_rfl) (fun _ _ _ _ _ h => h) s0 6 [0, 1, 2, 3, 4, 5] (by kernel_rfl) ?_ ?_
 rotate_left
 ·iterate 6 (refine yc (v := ?_) rfl rfl (by rfl) (fun w9 hSw => ?_) ?_; rotate_left; (focus go_simp; try rfl); simp only [Act.put, Zj, Zi, Zh])
  exact rfl
 refine rd1 6 (by kernel_rfl) rfl fun K hK => ?_
 go_simp
 go_at_call 86
 refine (Om.out _ BL.out ny.out (HH.out.Vd.below H7.out HH.out.lo)).mono ?_
 rintro e w2 hA; rcases r with ⟨vs, st2⟩ | ⟨o, m, st2⟩; rotate_left; (obtain ⟨ov2, hE2, hM2, rfl⟩ := hA; exact ⟨rfl, ov2, H7.out.trans hE2, hM2, rfl⟩)
 obtain ⟨ov2, hE2, hM2, y, rfl, hy⟩ := hA
 obtain ⟨qs, hR2, hl2, hk2⟩ := id hy
 obtain ⟨ya, yq, rfl, _⟩ := id hR2
 clear hl2 hk2 hR2
 obtain ⟨z0, z1, z2, z3⟩ := ZP (BL.out.Vd.hold hE2 X1.out (by decide) (by decide))
 have s4 : w2.cell? ⟨w.heap.size, 1, none⟩ = some (.int .i64 n) /\ w2.cell? ⟨w.heap.size, 3, none⟩ = some (.slice xa l.length xc) := ⟨z1, z3⟩
 refine hK.out _ _ s4 (fun _ => ?_)
 clear hK K
 refine tks (b := ?_) (by kernel_rfl) (fun _ _ _ _ _ h => h) s4 1 [7] (by kernel_rfl) ?_ ?_
 rotate_left
 ·refine yc (v := ?_) rfl rfl (by rfl) (fun w9 hSw => ?_) ?_; rotate_left; (focus go_simp; try rfl); simp only [Act.put, Zj, Zi, Zh]
  exact rfl
 have s5 : (w2.alloc (.cells #[.int .i64 4, .int .i64 n, .string ⟨#[]⟩, .slice ya qs.length yq] 83)).cell? ⟨w.heap.size, 1, none⟩ = some (.int .i64 n) /\ (w2.alloc (.cells #[.int .i64 4, .int .i64 n, .string ⟨#[]⟩, .slice ya qs.length yq] 83)).cell? ⟨w.heap.size, 3, none⟩ = some (.slice xa l.length xc) := ⟨Z5 z1 _, Z5 z3 _⟩
 refine rd1 8 (by kernel_rfl) rfl fun K hK => ?_
 go_simp
 refine hK.out _ _ s5 (fun _ => ?_)
 clear hK K
 refine tks (b := ?_) (by kernel_rfl) (fun _ _ _ _ _ h => h) s5 1 [9] (by kernel_rfl) ?_ ?_
 rotate_left
 ·refine yc (v := ?_) rfl rfl (by rfl) (fun w9 hSw => ?_) ?_; rotate_left; (focus go_simp; try rfl); simp only [Act.put, Zj, Zi, Zh]
  exact rfl
 refine X3 (by kernel_rfl) ?_ _
 go_wp2
 go_ret
 have hgz := Z8 w2 (.cells #[.int .i64 4, .int .i64 n, .string ⟨#[]⟩, .slice ya qs.length yq] 83)
 exact ⟨ov2, (H7.out.trans hE2).trans (Em.free hgz), hM2.free hgz, _, rfl, KH (op := 4) (n := n) hy (by have := HK.out.1.2; omega) (fun b hb => by have := hm0 b hb; have := H7.out.size; have := hE2.size; omega)⟩
theorem rR (HE : VW P fl fe B g) (hP : Ctx P fl) (M : Nat -> Prop) (mb : Nat) (fv : Value) (k : Nat) (self : ZT) (loc : List ZT) (st : Xa) (ov : Value) (w : World) (n : Int) (s : ByteArray) (xv : Value) (l : List Z0) (fb : Nat) (sv lv : Value) (ps : List Value)
 (hH : Hyp P fl fe B M mb fv k self loc st ov w) (hF : Yk M w fb sv lv ps self loc) (hX : Y0 B w (.mk 24 n s xv l)) (hf : ZI (fl.getD k default).caps (YM fl) loc.length (.mk 24 n s xv l) = true) (ht : ∀ y ∈ YK (.mk 24 n s xv l), y ∈ P.texts) (hg : fe - st.steps < (g + 1 : Nat)) (hfe : fe <= 1048576) (hst : st.steps ≠ fe) :
 Calls Tryz.prog 61 #[.pointer (some ⟨mb, 0, none⟩), Ws (.mk 24 n s xv l), .pointer (some ⟨fb, 0, none⟩)] w (WG mb fv fe w ov (Y1 fl fe (g + 1) (.mk 24 n s xv l) self loc st) fun v y w' => Wx M w' y v) := by
 obtain ⟨hfm, hfp⟩ := Za hf
 obtain ⟨Xy, _, Rz⟩ := hX.parts
 obtain ⟨xa, xc, rfl, hxc⟩ := id Xy
 rw [ZE]
 have hfl : ∀ y ∈ l, ZI (fl.getD k default).caps (YM fl) loc.length y = true := fun y hy => by
  obtain ⟨i, hi, rfl⟩ := List.mem_iff_getElem.1 hy; have a1 := hfp i hi; rw [show l.getD i default = l[i] by simp [List.getD, hi], WJ (by decide) (by decide)] at a1; exact a1
 have htl : ∀ t ∈ YW l, t ∈ P.texts := fun t hh => by rw [YG, Z7 (by decide)] at ht; exact ht t hh
 have hT : Nn fe st.steps st.tick := ⟨by show st.steps <= st.steps + 1; omega, by have := hH.le; show st.steps + 1 <= fe; omega, hH.out⟩
 have hll : l.length <= 1001 := by have h := (Qu hfm).1; simp at h; omega
 have hK := Ug (fe := fe) hH.hfn hH.ME l st.tick st.tick.steps (fun x _ => Wm hP g x) hfl htl ⟨Int.le_refl _, hT.2⟩
 have Om := Z9 (fun (W1 : World) (H1 : Hyp P fl fe B M mb fv k self loc st.tick ov W1) (F1 : Yk M W1 fb sv lv ps self loc) (hb : Below B w W1) => Vg hP HE M mb fv k self loc st.tick ov W1 fb sv lv ps l xa xc H1 F1 (Xy.kept hb.block) hll (fun y hy => (Rz y hy).under hb) hfl htl (by have : st.tick.steps = st.steps + 1 := rfl; omega))
 rw [Wz hst (by decide) (by decide) (by decide) (by decide)]
 simp only [rU]
 have hm0 := hH.m0
 generalize Sy (fun x st => Y1 fl fe g x self loc st) l st.tick = r at *
 have HK := Z9 hK
 obtain ⟨W1, hW1, hmb, m1, m2, fz, x0, hs0, hse, hwr, hne, L1, HH, H1, E1, F1, X1⟩ := Xp hH hF hst hfe 24 n s (.slice xa l.length xc) _ rfl
 clear hH hF hX hf ht hg hfe hst HE hP Xy Rz hfm hfp hxc hfl htl hT hK
 go_in
 go_upto_region 1 with fail
 generalize w.alloc (.cells #[.int .i64 24, .int .i64 n, .string s, .slice xa l.length xc] 36) = W0 at *
 go_region
 go_upto_region 4 with fail
 rw [hW1.out]
 clear hW1 m1 m2 fz x0
 obtain ⟨x0, x1, x2, x3⟩ := ZP X1.out
 go_wp2_with fail
 have s0 : W1.drew.cell? ⟨w.heap.size, 1, none⟩ = some (.int .i64 n) /\ W1.drew.cell? ⟨w.heap.size, 3, none⟩ = some (.slice xa l.length xc) := ⟨x1, x3⟩
 have BL := Z9 (H1.out.free (Z4 W1))
 have ny := Z9 (F1.out.kept (YS (Z4 W1)))
 have H7 := Z9 (E1.out.trans (Em.free (Z4 W1)))
 refine XG (S := (fun w9 => w9.cell? ⟨w.heap.size, 1, none⟩ = some (.int .i64 n) /\ w9.cell? ⟨w.heap.size, 3, none⟩ = some (.slice xa l.length xc))) (by kernel_rfl) s0 (fun hHeld => ?_)
 refine tks (b := ?_) (by kernel_rfl) (fun _ _ _ _ _ h => h) s0 6 [0, 1, 2, 3, 4, 5] (by kernel_rfl) ?_ ?_
 rotate_left
 ·iterate 6 (refine yc (v := ?_) rfl rfl (by rfl) (fun w9 hSw => ?_) ?_; rotate_left; (focus go_simp; try rfl); simp only [Act.put, Zj, Zi, Zh])
  exact rfl
 refine rd1 6 (by kernel_rfl) rfl fun K hK => ?_
 go_simp
 go_at_call 86
 refine (Om.out _ BL.out ny.out (HH.out.Vd.below H7.out HH.out.lo)).mono ?_
 rintro e w2 hA; rcases r with ⟨vs, st2⟩ | ⟨o, m, st2⟩; rotate_left; (obtain ⟨ov2, hE2, hM2, rfl⟩ := hA; exact ⟨rfl, ov2, H7.out.trans hE2, hM2, rfl⟩)
 obtain ⟨ov2, hE2, hM2, y, rfl, hy⟩ := hA
 obtain ⟨qs, hR2, hl2, hk2⟩ := id hy
 obtain ⟨ya, yq, rfl, _⟩ := id hR2
 clear hl2 hk2 hR2
 obtain ⟨z0, z1, z2, z3⟩ := ZP (BL.out.Vd.hold hE2 X1.out (by decide) (by decide))
 have s4 : w2.cell? ⟨w.heap.size, 1, none⟩ = some (.int .i64 n) /\ w2.cell? ⟨w.heap.size, 3, none⟩ = some (.slice xa l.length xc) := ⟨z1, z3⟩
 refine hK.out _ _ s4 (fun _ => ?_)
 clear hK K
 refine tks (b := ?_) (by kernel_rfl) (fun _ _ _ _ _ h => h) s4 1 [7] (by kernel_rfl) ?_ ?_
 rotate_left
 ·refine yc (v := ?_) rfl rfl (by rfl) (fun w9 hSw => ?_) ?_; rotate_left; (focus go_simp; try rfl); simp only [Act.put, Zj, Zi, Zh]
  exact rfl
 have s5 : (w2.alloc (.cells #[.int .i64 5, .int .i64 n, .string ⟨#[]⟩, .slice ya qs.length yq] 83)).cell? ⟨w.heap.size, 1, none⟩ = some (.int .i64 n) /\ (w2.alloc (.cells #[.int .i64 5, .int .i64 n, .string ⟨#[]⟩, .slice ya qs.length yq] 83)).cell? ⟨w.heap.size, 3, none⟩ = some (.slice xa l.length xc) := ⟨Z5 z1 _, Z5 z3 _⟩
 refine rd1 8 (by kernel_rfl) rfl fun K hK => ?_
 go_simp
 refine hK.out _ _ s5 (fun _ => ?_)
 clear hK K
 refine tks (b := ?_) (by kernel_rfl) (fun _ _ _ _ _ h => h) s5 1 [9] (by kernel_rfl) ?_ ?_
 rotate_left
 ·refine yc (v := ?_) rfl rfl (by rfl) (fun w9 hSw => ?_) ?_; rotate_left; (focus go_simp; try rfl); simp only [Act.put, Zj, Zi, Zh]
  exact rfl
 refine X3 (by kernel_rfl) ?_ _
 go_wp2
 go_ret
 have hgz := Z8 w2 (.cells #[.int .i64 5, .int .i64 n, .string ⟨#[]⟩, .slice ya qs.length yq] 83)
 exact ⟨ov2, (H7.out.trans hE2).trans (Em.free hgz), hM2.free hgz, _, rfl, KH (op := 7) (n := n) hy (by have := HK.out.1.2; omega) (fun b hb => by have := hm0 b hb; have := H7.out.size; have := hE2.size; omega)⟩
theorem rQ (HE : VW P fl fe B g) (hP : Ctx P fl) (M : Nat -> Prop) (mb : Nat) (fv : Value) (k : Nat) (self : ZT) (loc : List ZT) (st : Xa) (ov : Value) (w : World) (n : Int) (s : ByteArray) (xv : Value) (l : List Z0) (fb : Nat) (sv lv : Value) (ps : List Value)
 (hH : Hyp P fl fe B M mb fv k self loc st ov w) (hF : Yk M w fb sv lv ps self loc) (hX : Y0 B w (.mk 11 n s xv l)) (hf : ZI (fl.getD k default).caps (YM fl) loc.length (.mk 11 n s xv l) = true) (ht : ∀ y ∈ YK (.mk 11 n s xv l), y ∈ P.texts) (hg : fe - st.steps < (g + 1 : Nat)) (hfe : fe <= 1048576) (hst : st.steps ≠ fe) :
 Calls Tryz.prog 61 #[.pointer (some ⟨mb, 0, none⟩), Ws (.mk 11 n s xv l), .pointer (some ⟨fb, 0, none⟩)] w (WG mb fv fe w ov (Y1 fl fe (g + 1) (.mk 11 n s xv l) self loc st) fun v y w' => Wx M w' y v) := by
 obtain ⟨hfm, hfp⟩ := Za hf
 obtain ⟨Xy, _, Rz⟩ := hX.parts
 obtain ⟨xa, xc, rfl, hxc⟩ := id Xy
 rw [ZE]
 have hk := TV hfm
 obtain ⟨x, y, rfl⟩ := O8 hk
 obtain ⟨qb, qo, rfl⟩ := Nj Xy (by simp)
 rw [YG, Z7 (by decide), YZ, YZ, X0, List.append_nil] at ht
 have fx0 := hfp 0 (by simp)
 have fy0 := hfp 1 (by simp)
 change ZI (fl.getD k default).caps (YM fl) loc.length x = true at fx0
 change ZI (fl.getD k default).caps (YM fl) (loc.length + 1) y = true at fy0
 have htx : ∀ s ∈ YK x, s ∈ P.texts := fun s hs => ht s (List.mem_append_left _ hs)
 have hty : ∀ s ∈ YK y, s ∈ P.texts := fun s hs => ht s (List.mem_append_right _ hs)
 have hT : Nn fe st.steps st.tick := ⟨by show st.steps <= st.steps + 1; omega, by have := hH.le; show st.steps + 1 <= fe; omega, hH.out⟩
 have hts : st.tick.steps = st.steps + 1 := rfl
 have hKx := Wm (fe := fe) hP g x k self loc st.tick hH.hfn hH.ME fx0 htx hT.2.1 hT.2.2
 have AP := Z9 (fun (W : World) (H1 : Hyp P fl fe B M mb fv k self loc st.tick ov W) (F1 : Yk M W fb sv lv ps self loc) (hb : Below B w W) => HE M mb fv k self loc st.tick ov W x fb sv lv ps H1 F1 ((Rz x (by simp)).under hb) fx0 htx (by omega))
 have xD := Z9 (fun (W : World) (hb : Below B w W) => And.intro (SF Xy hb 0 (by simp)) (SF Xy hb 1 (by simp)))
 have hlen := hH.len
 rw [show Y1 fl fe (g + 1) (.mk 11 n s (.slice (some ⟨qb, qo, none⟩) [x, y].length xc) [x, y]) self loc st = Vw (Y1 fl fe g x self loc st.tick) (fun v st => Y1 fl fe g y self (loc ++ [v]) st) from by rw [Y1, Z7 hst, Z7 (by decide), Z7 (by decide), ZY rfl]; rfl]
 have hxe := Rz x (by simp)
 have hye := Rz y (by simp)
 generalize Y1 fl fe g x self loc st.tick = r at *
 have HK := Z9 hKx
 have jD := Z9 (fun (v : ZT) (st2 : Xa) (hr : r = .ok v st2) (W : World) (ov2 : Value) (vy : Value) (H : Hyp P fl fe B M mb fv k self loc st2 ov2 W) (F : Yk M W fb sv lv ps self loc) (hV : Wx M W vy v) (hb : Below B w W) => MO HE hfe M mb fv k self loc st2 ov2 W y fb sv lv ps vy v H F hV (Rb hKx hr).1 (hye.under hb) fy0 hty (by have := (Rb hKx hr).2.1; omega) (by have := (Rb hKx hr).2.1; omega))
 clear hKx
 obtain ⟨xo, xn, xs, xv, xl⟩ := x
 obtain ⟨xa, xc1, rfl, _⟩ := hxe.parts.1
 obtain ⟨yo, yn, ys, yv, yl⟩ := y
 obtain ⟨ya, yc1, rfl, _⟩ := hye.parts.1
 rw [ZE] at AP jD
 rw [show ([Z0.mk xo xn xs (.slice xa xl.length xc1) xl, Z0.mk yo yn ys (.slice ya yl.length yc1) yl] : List Z0).length = 2 from rfl]
 simp only [List.getD_cons_zero, List.getD_cons_succ, Z0.op, Z0.n, Z0.s, Z0.lv, Nat.zero_mul, Nat.add_zero, Nat.one_mul] at xD
 replace xD : Hid (∀ W, Below B w W -> W.cell? ⟨qb, qo, none⟩ = some (.int .i64 xo) /\ W.cell? ⟨qb, qo + 1, none⟩ = some (.int .i64 xn) /\ W.cell? ⟨qb, qo + 2, none⟩ = some (.string xs) /\ W.cell? ⟨qb, qo + 3, none⟩ = some (.slice xa xl.length xc1) /\ W.cell? ⟨qb, qo + 4, none⟩ = some (.int .i64 yo) /\ W.cell? ⟨qb, qo + 4 + 1, none⟩ = some (.int .i64 yn) /\ W.cell? ⟨qb, qo + 4 + 2, none⟩ = some (.string ys) /\ W.cell? ⟨qb, qo + 4 + 3, none⟩ = some (.slice ya yl.length yc1)) := Z9 fun W hb => by obtain ⟨⟨a0, a1, a2, a3⟩, ⟨b0, b1, b2, b3⟩⟩ := xD.out W hb; exact ⟨a0, a1, a2, a3, b0, b1, b2, b3⟩
 obtain ⟨W1, hW1, hmb, m1, m2, fz, x0, hs0, hse, hwr, hne, L1, HH, H1, E1, F1, X1⟩ := Xp hH hF hst hfe 11 n s (.slice (some ⟨qb, qo, none⟩) 2 xc) _ rfl
 clear hH hF hX hf ht hg hfe hst HE hP Xy Rz hfm hfp hxc fx0 fy0 htx hty hT hts hlen hxe hye
 go_in
 go_upto_region 1 with fail
 generalize w.alloc (.cells #[.int .i64 11, .int .i64 n, .string s, .slice (some ⟨qb, qo, none⟩) 2 xc] 36) = W0 at *
 go_region
 go_upto_region 4 with fail
 rw [hW1.out]
 clear hW1 m1 m2 fz x0
 obtain ⟨x0, x1, x2, x3⟩ := ZP X1.out
 go_wp2_with fail
 have BL := Z9 (H1.out.free (Z4 W1))
 have ny := Z9 (F1.out.kept (YS (Z4 W1)))
 have H7 := Z9 (E1.out.trans (Em.free (Z4 W1)))
 have s0 : W1.drew.cell? ⟨w.heap.size, 3, none⟩ = some (.slice (some ⟨qb, qo, none⟩) 2 xc) /\ W1.drew.cell? ⟨qb, qo, none⟩ = some (.int .i64 xo) /\ W1.drew.cell? ⟨qb, qo + 1, none⟩ = some (.int .i64 xn) /\ W1.drew.cell? ⟨qb, qo + 2, none⟩ = some (.string xs) /\ W1.drew.cell? ⟨qb, qo + 3, none⟩ = some (.slice xa xl.length xc1) /\ W1.drew.cell? ⟨qb, qo + 4, none⟩ = some (.int .i64 yo) /\ W1.drew.cell? ⟨qb, qo + 4 + 1, none⟩ = some (.int .i64 yn) /\ W1.drew.cell? ⟨qb, qo + 4 + 2, none⟩ = some (.string ys) /\ W1.drew.cell? ⟨qb, qo + 4 + 3, none⟩ = some (.slice ya yl.length yc1) := ⟨x3, xD.out _ (HH.out.Vd.below H7.out HH.out.lo)⟩
 refine XG (S := (fun w9 => w9.cell? ⟨w.heap.size, 3, none⟩ = some (.slice (some ⟨qb, qo, none⟩) 2 xc) /\ w9.cell? ⟨qb, qo, none⟩ = some (.int .i64 xo) /\ w9.cell? ⟨qb, qo + 1, none⟩ = some (.int .i64 xn) /\ w9.cell? ⟨qb, qo + 2, none⟩ = some (.string xs) /\ w9.cell? ⟨qb, qo + 3, none⟩ = some (.slice xa xl.length xc1) /\ w9.cell? ⟨qb, qo + 4, none⟩ = some (.int .i64 yo) /\ w9.cell? ⟨qb, qo + 4 + 1, none⟩ = some (.int .i64 yn) /\ w9.cell? ⟨qb, qo + 4 + 2, none⟩ = some (.string ys) /\ w9.cell? ⟨qb, qo + 4 + 3, none⟩ = some (.slice ya yl.length yc1))) (by kernel_rfl) s0 (fun hHeld => ?_)
 refine tks (b := ?_) (by kernel_rfl) (fun _ _ _ _ _ h => h) s0 12 [0, 1, 2, 3, 4, 5, 6, 7, 8, 9, 10, 11] (by kernel_rfl) ?_ ?_
 rotate_left
 ·iterate 12 (refine yc (v := ?_) rfl rfl (by rfl) (fun w9 hSw => ?_) ?_; rotate_left; (focus go_simp; try rfl); simp only [Act.put, Zj, Zi, Zh])
  exact rfl
 refine rd1 12 (by kernel_rfl) rfl fun K hK => ?_
 go_simp
 go_at_call 61
 refine (AP.out _ BL.out ny.out (HH.out.Vd.below H7.out HH.out.lo)).mono ?_
 rintro e w2 hA; rcases r with ⟨v, st2⟩ | ⟨o, m, st2⟩; rotate_left; (obtain ⟨ov2, hE2, hM2, rfl⟩ := hA; exact ⟨rfl, ov2, H7.out.trans hE2, hM2, rfl⟩); obtain ⟨ov2, hE2, hM2, y, rfl, hy⟩ := hA
 obtain ⟨yb, _, _, rfl, _⟩ := id hy.open
 have hb2 := HH.out.Vd.below (H7.out.trans hE2) HH.out.lo
 have s4 : w2.cell? ⟨w.heap.size, 3, none⟩ = some (.slice (some ⟨qb, qo, none⟩) 2 xc) /\ w2.cell? ⟨qb, qo, none⟩ = some (.int .i64 xo) /\ w2.cell? ⟨qb, qo + 1, none⟩ = some (.int .i64 xn) /\ w2.cell? ⟨qb, qo + 2, none⟩ = some (.string xs) /\ w2.cell? ⟨qb, qo + 3, none⟩ = some (.slice xa xl.length xc1) /\ w2.cell? ⟨qb, qo + 4, none⟩ = some (.int .i64 yo) /\ w2.cell? ⟨qb, qo + 4 + 1, none⟩ = some (.int .i64 yn) /\ w2.cell? ⟨qb, qo + 4 + 2, none⟩ = some (.string ys) /\ w2.cell? ⟨qb, qo + 4 + 3, none⟩ = some (.slice ya yl.length yc1) := ⟨(ZP (BL.out.Vd.hold hE2 X1.out (by decide) (by decide))).2.2.2, xD.out _ hb2⟩
 have HIX := Z9 (jD.out _ _ rfl w2 ov2 _ (BL.out.step hE2 hM2 HK.out.2) (ny.out.kept (BL.out.Vd.Od hE2)) hy hb2)
 have HB2 := Z9 (BL.out.Vd.hold hE2 X1.out (by decide) (by decide))
 have E2 := Z9 (H7.out.trans hE2)
 have M2 := Z9 hM2
 clear hE2 hM2 hy hb2
 refine hK.out _ _ s4 (fun _ => ?_)
 clear hK K
 refine rd1 13 (by kernel_rfl) rfl fun K hK => ?_
 go_simp
 go_at_call 88
 refine HIX.out.mono ?_
 rintro e w3 hA; obtain ⟨he, ov3, hE3, hA⟩ := H9 hA; rcases he with ⟨c, rfl⟩ | ⟨y3, rfl⟩; (exact ⟨rfl, (hA _ _ (E2.out.trans hE3))⟩)
 have s5 : w3.cell? ⟨w.heap.size, 3, none⟩ = some (.slice (some ⟨qb, qo, none⟩) 2 xc) /\ w3.cell? ⟨qb, qo, none⟩ = some (.int .i64 xo) /\ w3.cell? ⟨qb, qo + 1, none⟩ = some (.int .i64 xn) /\ w3.cell? ⟨qb, qo + 2, none⟩ = some (.string xs) /\ w3.cell? ⟨qb, qo + 3, none⟩ = some (.slice xa xl.length xc1) /\ w3.cell? ⟨qb, qo + 4, none⟩ = some (.int .i64 yo) /\ w3.cell? ⟨qb, qo + 4 + 1, none⟩ = some (.int .i64 yn) /\ w3.cell? ⟨qb, qo + 4 + 2, none⟩ = some (.string ys) /\ w3.cell? ⟨qb, qo + 4 + 3, none⟩ = some (.slice ya yl.length yc1) := ⟨(ZP (M2.out.hold hE3 HB2.out (by decide) (by decide))).2.2.2, xD.out _ (HH.out.Vd.below (E2.out.trans hE3) HH.out.lo)⟩
 refine hK.out _ _ s5 (fun _ => ?_)
 clear hK K
 refine tks (b := ?_) (by kernel_rfl) (fun _ _ _ _ _ h => h) s5 1 [14] (by kernel_rfl) ?_ ?_
 rotate_left
 ·refine yc (v := ?_) rfl rfl (by rfl) (fun w9 hSw => ?_) ?_; rotate_left; (focus go_simp; try rfl); simp only [Act.put, Zj, Zi, Zh]
  exact rfl
 refine X3 (by kernel_rfl) ?_ _
 go_wp2
 go_ret
 exact hA _ _ (E2.out.trans hE3)
end
end Go.Proofs.YtbcfdebdikgijaaGreatDoor
