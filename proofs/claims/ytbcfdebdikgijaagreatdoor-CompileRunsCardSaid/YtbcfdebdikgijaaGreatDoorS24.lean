/- Part of the proof; its texts: Rw2. -/
import Derived.Test.YtbcfdebdikgijaaGreatDoorS23
import Derived.Lib.LaidTab
set_option maxRecDepth 100000
set_option linter.unusedVariables false
set_option linter.unusedSimpArgs false
namespace Go.Proofs.YtbcfdebdikgijaaGreatDoor
open Go Go.RowKit
def Pv (w : World) : Prop := Lib.TabIs Tryz.prog w "internal/strconv.uint64pow10" .u64 Lib.pow10Tab
theorem kM : Tryz.prog.globalNamed "internal/strconv.uint64pow10" = some 0 := by kernel_rfl
theorem Pv.below {w w' : World} {B : Nat} (h : Pv w) (hb : Below B w w') (hB : 0 < B) : Pv w' := var?_below hb kM hB h
theorem EC (A : Nat) : Int.tdiv 4503599627370496 (A : Int) = ((4503599627370496 / A : Nat) : Int) := by
 rw [Int.natCast_ediv]
 exact Int.tdiv_eq_ediv_of_nonneg (by decide)
theorem RF (A B : Nat) (hA : 0 < A) : (Int.tdiv 4503599627370496 (A : Int) < (B : Int)) ↔ 4503599627370496 < B * A := by
 rw [EC, Int.ofNat_lt, Nat.div_lt_iff_lt_mul hA]
theorem VQ (a : Int) : Qf a = (a.natAbs : Int) := by unfold Qf; split <;> omega
theorem JA (A : Nat) : wrap64 (Int.tdiv 4503599627370496 (A : Int)) = Int.tdiv 4503599627370496 (A : Int) := by
 rw [EC]
 have : 4503599627370496 / A <= 4503599627370496 := Nat.div_le_self _ _
 generalize 4503599627370496 / A = q at *
 unfold wrap64; omega
theorem yH {a b : Int} (ha0 : a ≠ 0) (h : Int.tdiv 4503599627370496 (Qf a) < Qf b) : WV (Yu a b) = .fail 2 := by
 rw [VQ, VQ, RF _ _ (by omega)] at h
 have hb0 : b ≠ 0 := fun e => by subst e; simp at h
 unfold Yu
 rw [Z7 ha0, Z7 hb0, VQ, VQ, JA, ZY ((RF _ _ (by omega)).2 (by rw [Nat.mul_comm]; exact h))]
 rfl
theorem EB {a b : Int} (h : a ≠ 0 -> ¬ Int.tdiv 4503599627370496 (Qf a) < Qf b) : WV (Yu a b) = .num (a * b) /\ wrap64 (a * b) = a * b /\ Y7 (a * b) (-4503599627370496) 4503599627370496 = true := by
 have key : (a * b).natAbs <= 4503599627370496 := by
  by_cases ha0 : a = 0
  ·subst ha0; simp
  ·have h := h ha0
   rw [VQ, VQ, RF _ _ (by omega)] at h; rw [Int.natAbs_mul, Nat.mul_comm]; omega
 have hw : wrap64 (a * b) = a * b := by unfold wrap64; omega
 have hin : Y7 (a * b) (-4503599627370496) 4503599627370496 = true := by unfold Y7; simp; omega
 refine ⟨?_, hw, hin⟩
 have e : Yu a b = a * b := by
  unfold Yu; by_cases ha0 : a = 0
  ·rw [ZY ha0, ha0, Int.zero_mul]
  ·by_cases hb0 : b = 0
   ·rw [Z7 ha0, ZY hb0, hb0, Int.mul_zero]
   ·rw [Z7 ha0, Z7 hb0, VQ, VQ, JA, Z7 (fun h2 => h ha0 ((by rw [VQ, VQ, RF _ _ (by omega), Nat.mul_comm]; exact (RF _ _ (by omega)).1 h2))), hw]
 rw [e]
 unfold WV
 rw [Z7 (by omega), Z7 (by omega)]
theorem RD {M : Nat -> Prop} {w : World} {v : Value} {x : ZT} (h : Wx M w v x) (s : Int) : Calls Tryz.prog 87 #[v, .int .i64 s] w fun e w' => w = w' /\ (Ig x.op = s -> e = .returned v) /\ (Ig x.op ≠ s -> e = .panicked (Wn 4 0)) := by
 obtain ⟨b, lv, ps, rfl, hb, _⟩ := h.open
 obtain ⟨c0, _⟩ := YV hb
 generalize Ig x.op = k at *
 by_cases hk : k = s
 ·have hk' : (k != s) = false := by simp [hk]
  go_in; go_wp2_with (go_at_call 62; refine (Xz _ _ _).mono ?_; rintro e w' ⟨rfl, rfl⟩); go_ret; exact ⟨rfl, fun _ => rfl, fun h => absurd hk h⟩
 ·have hk' : (k != s) = true := by simp [hk]
  go_in; go_wp2_with (go_at_call 62; refine (Xz _ _ _).mono ?_; rintro e w' ⟨rfl, rfl⟩); exact ⟨rfl, rfl, fun h => absurd h hk, fun _ => rfl⟩
theorem Qk (a : Addr) (n c : Nat) (hc : n <= c) (w : World) : Calls Tryz.prog 100 #[.slice (some a) n c] w fun e w' => e = .returned (.slice (some a) n n) /\ w = w' := by
 go_in
 go_wp2
 go_ret
 exact ⟨rfl, rfl⟩
theorem Ap {n : Int} {w : World} (h : Y7 n (-4503599627370496) 4503599627370496 = true) : Calls Tryz.prog 101 #[.int .i64 n] w (EF w (.mk 1 n ⟨#[]⟩ [])) := by
 have e : WV n = .num n := by
  unfold Y7 at h; simp at h; unfold WV; rw [Z7 (by omega), Z7 (by omega)]
 have := Vu n w
 rw [e] at this
 exact this
theorem Kh (a b : Int) (ha : -4503599627370496 <= a /\ a <= 4503599627370496) (hb : -4503599627370496 <= b /\ b <= 4503599627370496) (ha0 : a ≠ 0) (w : World) : Calls Tryz.prog 102 #[.int .i64 a, .int .i64 b] w (XK (Kl (WV (Yu a b))) w) := by
 have na : IntKind.i64.wrap (-a) = -a := YJ _ (by omega) (by omega)
 have nb : IntKind.i64.wrap (-b) = -b := YJ _ (by omega) (by omega)
 have ca : (a != 0) = true := by simp [ha0]
 obtain ⟨A, hA⟩ : ∃ A : Nat, a.natAbs = A := ⟨_, rfl⟩
 obtain ⟨C, hC⟩ : ∃ C : Nat, b.natAbs = C := ⟨_, rfl⟩
 have fa : max a (-a) = (A : Int) := by omega
 have fb : max b (-b) = (C : Int) := by omega
 have hd : (4503599627370496 : Int) / (A : Int) = Int.tdiv 4503599627370496 (Qf a) := by rw [VQ, hA]; exact (Int.tdiv_eq_ediv_of_nonneg (by decide)).symm
 have hc : Qf b = (C : Int) := by rw [VQ, hC]
 by_cases h : Int.tdiv 4503599627370496 (Qf a) < Qf b
 ·rw [yH ha0 h]
  rw [<- hd, hc] at h; clear hd hc hA hC; go_in; go_wp2_with (go_at_call 62; refine (Xz _ _ _).mono ?_; rintro e w' ⟨rfl, rfl⟩); exact ⟨rfl, rfl, Yb _ _⟩
 ·obtain ⟨t1, t2, t3⟩ := EB (fun _ => h)
  rw [t1]; rw [<- hd, hc] at h; clear hd hc hA hC; have HN := fun wx => Ap (w := wx) t3
  go_in; go_wp2_with (go_at_call 101; refine (HN _).mono ?_; rintro e w' ⟨y, rfl, h1, h2⟩); go_ret; exact ⟨y, rfl, h1, h2⟩
theorem Ce (b : Int) (w : World) : Calls Tryz.prog 102 #[.int .i64 0, .int .i64 b] w (XK (Kl (WV (Yu 0 b))) w) := by
 obtain ⟨t1, t2, t3⟩ := EB (a := 0) (b := b) (fun h => absurd rfl h)
 rw [t1]
 have HN := fun wx => Ap (w := wx) t3
 have hz : wrap64 (0 * b) = 0 * b := t2
 rw [Int.zero_mul] at HN ⊢
 have ca : ((0 : Int) != 0) = false := rfl
 go_in
 go_wp2_with (go_at_call 101; refine (HN _).mono ?_; rintro e w' ⟨y, rfl, h1, h2⟩)
 go_ret
 exact ⟨y, rfl, h1, h2⟩
theorem Ic (a b : Int) (ha : -4503599627370496 <= a /\ a <= 4503599627370496) (hb : -4503599627370496 <= b /\ b <= 4503599627370496) (w : World) : Calls Tryz.prog 102 #[.int .i64 a, .int .i64 b] w (XK (Kl (WV (Yu a b))) w) := by
 by_cases h : a = 0
 ·subst h; exact Ce b w
 ·exact Kh a b ha hb h w
end Go.Proofs.YtbcfdebdikgijaaGreatDoor
