/- Part of the proof; its texts: Rx3. -/
import Derived.Test.YtbcfdebdikgijaaGreatDoorS33
set_option maxRecDepth 100000
set_option linter.unusedVariables false
set_option linter.unusedSimpArgs false
set_option maxHeartbeats 2000000
namespace Go.Proofs.YtbcfdebdikgijaaGreatDoor
open Go Go.RowKit
section
variable {P : Zz} {fl : List ZJ} {fe : Int} {B g : Nat}
theorem xW (M : Nat -> Prop) (mb : Nat) (fv : Value) (k : Nat) (self : ZT) (loc : List ZT) (st : Xa) (ov : Value) (w : World) (x : Z0) (fb : Nat) (hH : Hyp P fl fe B M mb fv k self loc st ov w) (hX : Y0 B w x) (hst : st.steps = fe) :
 Calls Tryz.prog 61 #[.pointer (some ⟨mb, 0, none⟩), Ws x, .pointer (some ⟨fb, 0, none⟩)] w (WG mb fv fe w ov (.stop 3 0 st : WR ZT) fun v y w' => Wx M w' y v) := by
 obtain ⟨op, n, s, xv, l⟩ := x
 obtain ⟨xa, xc, rfl, _⟩ := hX.parts.1
 rw [ZE]
 obtain ⟨_, m1, m2, _⟩ := (hH.Vd.free (Z8 w (.cells #[.int .i64 op, .int .i64 n, .string s, .slice xa l.length xc] 36))).cells
 rw [hst] at m2
 have HM := Z9 hH.Vd
 have hg := Z9 (Z8 w (.cells #[.int .i64 op, .int .i64 n, .string s, .slice xa l.length xc] 36))
 clear hH hX hst
 go_in
 go_upto_region 1 with fail
 generalize w.alloc (.cells #[.int .i64 op, .int .i64 n, .string s, .slice xa l.length xc] 36) = W0 at *
 go_region
 go_wp2_with (go_at_call 62; refine (Xz _ _ _).mono ?_; rintro e w' ⟨rfl, rfl⟩)
 exact ⟨rfl, Si HM.out (both hg.out (Z4 W0)) 3 0 _⟩
theorem El (hP : Ctx P fl) (hfe : fe <= 1048576) : ∀ g, VW P fl fe B g
 | 0 => fun M mb fv k self loc st ov w x fb sv lv ps hH _ _ _ _ hg => absurd hg (by have := hH.le; omega)
 | g + 1 => fun M mb fv k self loc st ov w x fb sv lv ps hH hF hX hf ht hg => by
   have HE := El hP hfe g; by_cases hst : st.steps = fe
   ·obtain ⟨op, n, s, xv, l⟩ := x
    rw [show Y1 fl fe (g + 1) (.mk op n s xv l) self loc st = .stop 3 0 st from by rw [Y1, ZY hst]]; exact xW M mb fv k self loc st ov w _ fb hH hX hst
   ·obtain ⟨op, n, s, xv, l⟩ := x
    rcases Td (Za hf).1 with rfl | rfl | rfl | rfl | rfl | rfl | rfl | rfl | rfl | rfl | rfl | rfl | rfl | rfl
    ·exact oK HE hP M mb fv k self loc st ov w n s xv l fb sv lv ps hH hF hX hf ht hg hfe hst
    ·exact oJ HE hP M mb fv k self loc st ov w n s xv l fb sv lv ps hH hF hX hf ht hg hfe hst
    ·exact oH HE hP M mb fv k self loc st ov w n s xv l fb sv lv ps hH hF hX hf ht hg hfe hst
    ·exact oD HE hP M mb fv k self loc st ov w n s xv l fb sv lv ps hH hF hX hf ht hg hfe hst
    ·exact oG HE hP M mb fv k self loc st ov w n s xv l fb sv lv ps hH hF hX hf ht hg hfe hst
    ·exact oC HE hP M mb fv k self loc st ov w n s xv l fb sv lv ps hH hF hX hf ht hg hfe hst
    ·exact rQ HE hP M mb fv k self loc st ov w n s xv l fb sv lv ps hH hF hX hf ht hg hfe hst
    ·exact rW HE hP M mb fv k self loc st ov w n s xv l fb sv lv ps hH hF hX hf ht hg hfe hst
    ·exact rY HE hP M mb fv k self loc st ov w n s xv l fb sv lv ps hH hF hX hf ht hg hfe hst
    ·exact su HE hP M mb fv k self loc st ov w n s xv l fb sv lv ps hH hF hX hf ht hg hfe hst
    ·exact sj HE hP M mb fv k self loc st ov w n s xv l fb sv lv ps hH hF hX hf ht hg hfe hst
    ·exact rZ HE hP M mb fv k self loc st ov w n s xv l fb sv lv ps hH hF hX hf ht hg hfe hst
    ·exact rR HE hP M mb fv k self loc st ov w n s xv l fb sv lv ps hH hF hX hf ht hg hfe hst
    ·exact rV HE hP M mb fv k self loc st ov w n s xv l fb sv lv ps hH hF hX hf ht hg hfe hst
end
end Go.Proofs.YtbcfdebdikgijaaGreatDoor
