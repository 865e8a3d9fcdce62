/- Put and Sum of the reference. -/
import Derived.Test.YtbcbjefonkbjnaaDoorBc32
namespace Go.Proofs.YtbcbjefonkbjnaaDoor
open Go Go.RowKit

def RPutOk (n : Int) (w : World) (e : Ending) (w' : World) : Prop :=
  ∃ v, e = .returned v ∧ w'.ownsRow w.heap.size 5 1 v (putL n).length (u8s (putL n)) ∧ Below w.heap.size w w'
theorem sum_mod (a f x : Int) : (a + f % 65521 * x) % 65521 = (a + f * x) % 65521 := by
  rw [Int.add_emod, Int.mul_emod, Int.emod_emod, ← Int.mul_emod, ← Int.add_emod]
theorem mul_big (a b : Int) (h1 : 0 ≤ a) (h2 : a ≤ 10000001) (h3 : 0 ≤ b) (h4 : b < 256) : 0 ≤ a * b ∧ a * b ≤ 2560000256 := by
  refine ⟨Int.mul_nonneg h1 h3, ?_⟩
  calc a * b ≤ 10000001 * b := Int.mul_le_mul_of_nonneg_right (by omega) h3
    _ ≤ 2560000256 := by omega
set_option maxHeartbeats 1000000 in
set_option maxRecDepth 100000 in
theorem rput_any (n : Int) (w : World) (h1 : -4503599627370497 ≤ n) (h2 : n ≤ 4503599627370497) :
    Calls Tryd.prog 46 #[.int .i64 n] w (RPutOk n w) := by
  have Hz := Lib.hid (zig_lt n h1 h2)
  obtain ⟨i0, hi, hz0, hz1, hz2⟩ := info_parts info_u8
  obtain ⟨z0, hz⟩ : ∃ z0, z0 = zig n := ⟨_, rfl⟩
  have HL : Hid (putF 8 z0 = putL n) := by show _ = _; rw [hz]; rfl
  have HZ : Hid (z0 < 128 ^ 8) := by show _ < _; rw [hz]; exact Hz.out
  have hsgn : (n < 0 ∧ -(2 * n) - 1 = (z0 : Int)) ∨ (¬ n < 0 ∧ 2 * n = (z0 : Int)) := by
    rw [hz]; unfold zig; split <;> omega
  clear hz Hz
  rcases hsgn with ⟨hn, he⟩ | ⟨hn, he⟩
  all_goals
    go_enter Tryd.func46, Tryd.ntmps46
    go_wp2_with fail
    clear he hn
    go_loopw [3, 4] (fun iv u wr => ∃ (pre : List Int) (k z : Nat), iv = .int .i64 z ∧ pre.length + (k + 1) = 8 ∧ z ≤ 72057594037927936 ∧ Hid (z < 128 ^ (k + 1)) ∧ Hid (pre ++ putF (k + 1) z = putL n) ∧ Hid (wr.ownsRow w.heap.size 5 1 u pre.length (u8s pre)) ∧ Below w.heap.size w wr) (fun iv _ _ => (intOf iv).toNat)
    case atStart => exact ⟨[], 7, z0, rfl, rfl, by have := HZ.out; omega, HZ.out, HL.out, World.ownsRow_nil _ _ _ _, Below.refl _ _⟩
    case round =>
      obtain ⟨pre, k, z, rfl, hpk, hzb, Hzk, Hpre, Hr, hbr⟩ := hrel
      have hwz : w.heap.size ≤ wr.heap.size := hbr.size
      by_cases hlt : 128 ≤ z
      · have Hst := Lib.hid (put_step pre k z _ Hpre.out hlt)
        obtain ⟨k, rfl⟩ : ∃ k', k = k' + 1 := by
          cases k with
          | zero => exfalso; have := Hzk.out; simp at this; omega
          | succ k => exact ⟨k, rfl⟩
        have Hzk2 : Hid (z / 128 < 128 ^ (k + 1)) := by
          show _ < _
          have := Hzk.out; rw [Nat.pow_succ] at this; omega
        go_wp2_with (at_builtin; refine wpList_append_own _ rfl _ _ 47 rfl w.heap.size 5 i0 (.int .u8 0) 1 1 Tryd.underlying47 hi hz0 hz1 hz2 rfl (by decide) _ pre.length (u8s pre) rfl (Hr.out.alloc _) ⟨wr.heap.size, 0, none⟩ 1 1 [.int .u8 ((z : Int) % 128 + 128)] rfl rfl ?c1 ?c2 ?c3 ?c4 ?c5 ?_)
        case c1 => exact cell_one_new _ _ _
        case c2 => intro u hu; simp at hu; subst hu; rfl
        case c3 => unfold maxLen; omega
        case c4 => omega
        case c5 => simp; omega
        intro v' w1 hown1 hgrow1 _
        have hb1 : Hid (Below w.heap.size w w1) := (hbr.alloc hwz _).grown hgrow1 (by simp; omega) (fun g hg => own_ge Hr.out hg)
        have hown2 : Hid (w1.ownsRow w.heap.size 5 1 v' (pre ++ [((z : Int) % 128 + 128)]).length (u8s (pre ++ [((z : Int) % 128 + 128)]))) := by
          show World.ownsRow _ _ _ _ _ _ _
          rw [List.length_append, List.length_singleton]
          unfold u8s at hown1 ⊢; rw [List.map_append]; exact hown1
        clear hown1 hgrow1 hbr
        go_wp2_with fail
        go_roundw
        case rel => exact ⟨pre ++ [((z : Int) % 128 + 128)], k, z / 128, by simp, by simp; omega, by omega, Hzk2, Hst, hown2, hb1.out⟩
        case measure => simp [intOf]; omega
      · have hL := Lib.hid (put_last pre k z _ Hpre.out (by omega))
        go_wp2_with (at_builtin; refine wpList_append_own _ rfl _ _ 47 rfl w.heap.size 5 i0 (.int .u8 0) 1 1 Tryd.underlying47 hi hz0 hz1 hz2 rfl (by decide) _ pre.length (u8s pre) rfl (Hr.out.alloc _) ⟨wr.heap.size, 0, none⟩ 1 1 [.int .u8 (z : Int)] rfl rfl ?c1 ?c2 ?c3 ?c4 ?c5 ?_)
        case c1 => exact cell_one_new _ _ _
        case c2 => intro u hu; simp at hu; subst hu; rfl
        case c3 => unfold maxLen; omega
        case c4 => omega
        case c5 => simp; omega
        intro v' w1 hown1 hgrow1 _
        have hb1 : Below w.heap.size w w1 := (hbr.alloc hwz _).grown hgrow1 (by simp; omega) (fun g hg => own_ge Hr.out hg)
        have hown2 : Hid (w1.ownsRow w.heap.size 5 1 v' (putL n).length (u8s (putL n))) := by
          show World.ownsRow _ _ _ _ _ _ _
          rw [← hL.out, List.length_append, List.length_singleton]
          unfold u8s at hown1 ⊢; rw [List.map_append]; exact hown1
        clear hown1 hgrow1 hbr
        go_wp2_with fail
        go_ret
        exact ⟨_, rfl, hown2.out, hb1⟩
set_option maxHeartbeats 1000000 in
set_option maxRecDepth 100000 in
theorem rsum_any (v : Value) (l : List Int) (w : World) (hl : l.length ≤ 10000000) (hb : AreBytes l) (h : IsRow w v l.length (u8s l)) :
    Calls Tryd.prog 47 #[v] w fun e w' => e = .returned (.int .i64 (sumK l l.length)) ∧ w = w' := by
  obtain ⟨a, c, rfl, hlc, hcell⟩ := h
  have Hcell := Lib.hid hcell
  clear hcell
  go_enter Tryd.func47, Tryd.ntmps47
  go_wp2_with fail
  go_loop [3, 4] (fun n i => ∃ k : Nat, k ≤ l.length ∧ i = .int .i64 k ∧ n = .int .i64 (sumK l k)) (fun _ i => l.length - (intOf i).toNat)
  case atStart => exact ⟨0, Nat.zero_le _, rfl, rfl⟩
  case round =>
    obtain ⟨k, hk, rfl, rfl⟩ := hrel
    by_cases hkl : k < l.length
    · obtain ⟨b, off, rfl, hlt, hc⟩ := Hcell.out (by omega)
      have hcx := hc k (by rw [u8s_length]; exact hkl)
      rw [u8s_at l k hkl] at hcx
      obtain ⟨x0, x1⟩ := hb.at k hkl
      obtain ⟨s0, s1⟩ := sumK_lt l k
      have hnx : Hid (sumK l (k + 1) = (sumK l k + ((k : Int) + 1) * l.getD k 0) % 65521) := sum_mod _ _ _
      generalize l.getD k 0 = x at *
      generalize hs : sumK l k = s at *
      obtain ⟨m0, m1⟩ := mul_big ((k : Int) + 1) x (by omega) (by omega) x0 x1
      clear hc hs Hcell
      go_wp2_with fail
      go_round
      case rel => exact ⟨k + 1, by omega, by go_num, by rw [hnx.out]⟩
      case measure => simp [intOf]; omega
    · obtain rfl : k = l.length := by omega
      go_wp2_with fail
      go_ret
      exact ⟨rfl, rfl⟩
end Go.Proofs.YtbcbjefonkbjnaaDoor
