/- put: the code of a number; sum. -/
import Derived.Test.YtbcbjefonkbjnaaDoorBc6
import Derived.Maps.AppendAt
namespace Go.Proofs.YtbcbjefonkbjnaaDoor
open Go Go.RowKit

def u8s (l : List Int) : List Value := l.map (Value.int .u8)
def putF : Nat → Nat → List Int
  | 0, _ => []
  | k + 1, z => if z < 128 then [(z : Int)] else ((z : Int) % 128 + 128) :: putF k (z / 128)
def zig (n : Int) : Nat := if n < 0 then (-2 * n - 1).toNat else (2 * n).toNat
def putL (n : Int) : List Int := putF 8 (zig n)
theorem info_u8 : (Tryd.prog.info? 5).map (fun i => (i.zero, i.size, i.bytes)) = some (some (.int .u8 0), 1, 1) := by kernel_rfl
/-- All blocks but the row's own one are as they were; the row lies where it lay, or in a new block. -/
structure Keeps (w w' : World) (r r' : Option Nat) : Prop where
  kept : ∀ k, k < w.heap.size → r ≠ some k → w'.heap[k]? = w.heap[k]?
  own : r' = r ∨ ∃ g, r' = some g ∧ w.heap.size ≤ g
  size : w.heap.size ≤ w'.heap.size
theorem Keeps.refl (w : World) (r : Option Nat) : Keeps w w r r := ⟨fun _ _ _ => rfl, Or.inl rfl, Nat.le_refl _⟩
theorem Keeps.apart {w w' : World} {r r' : Option Nat} (h : Keeps w w' r r') {k : Nat} (hk : k < w.heap.size) (hr : r ≠ some k) : r' ≠ some k ∧ w'.heap[k]? = w.heap[k]? := by
  refine ⟨?_, h.kept k hk hr⟩
  rcases h.own with h | ⟨g, h, hg⟩
  · rw [h]; exact hr
  · rw [h]; intro e; cases e; omega
theorem Keeps.trans {a b c : World} {r s t : Option Nat} (h : Keeps a b r s) (k : Keeps b c s t) : Keeps a c r t := by
  refine ⟨fun q hq hr => ?_, ?_, Nat.le_trans h.size k.size⟩
  · obtain ⟨h1, h2⟩ := h.apart hq hr
    rw [k.kept q (Nat.lt_of_lt_of_le hq h.size) h1, h2]
  · rcases k.own with e | ⟨g, e, hg⟩
    · rw [e]; exact h.own
    · exact Or.inr ⟨g, e, Nat.le_trans h.size hg⟩
theorem Keeps.alloc (w : World) (o : Obj) (r : Option Nat) : Keeps w (w.alloc o) r r := ⟨fun k hk _ => Below.heap_alloc w o k hk, Or.inl rfl, by simp⟩
theorem Keeps.grown {w w' : World} {r r' : Option Nat} (h : w.grownBy w' r) (ho : r' = r ∨ r' = some w.heap.size) : Keeps w w' r r' :=
  ⟨fun k hk hr => h.block k hk (Ne.symm hr), ho.imp id fun e => ⟨_, e, Nat.le_refl _⟩, h.size⟩
def PutOk (B : Nat) (xs : List Int) (n : Int) (r : Option Nat) (w : World) (e : Ending) (w' : World) : Prop :=
  ∃ v, e = .returned v ∧ w'.ownsRow B 5 1 v (xs ++ putL n).length (u8s (xs ++ putL n)) ∧ Below B w w' ∧ Keeps w w' r v.ownBlock
theorem put_step (pre : List Int) (k z : Nat) (l : List Int) (h : pre ++ putF (k + 1) z = l) (hz : 128 ≤ z) : (pre ++ [((z : Int) % 128 + 128)]) ++ putF k (z / 128) = l := by
  rw [← h]; simp [putF, show ¬ z < 128 by omega]
theorem put_last (pre : List Int) (k z : Nat) (l : List Int) (h : pre ++ putF (k + 1) z = l) (hz : z < 128) : pre ++ [(z : Int)] = l := by
  rw [← h]; simp [putF, hz]
theorem zig_lt (n : Int) (h1 : -4503599627370497 ≤ n) (h2 : n ≤ 4503599627370497) : zig n < 128 ^ 8 := by unfold zig; split <;> omega
set_option maxHeartbeats 1000000 in
set_option maxRecDepth 100000 in
theorem put_any (B : Nat) (v : Value) (xs : List Int) (n : Int) (w : World) (hB : B ≤ w.heap.size) (hx : xs.length ≤ 10000000) (h1 : -4503599627370497 ≤ n) (h2 : n ≤ 4503599627370497)
    (hown : w.ownsRow B 5 1 v xs.length (u8s xs)) :
    Calls Tryd.prog 42 #[v, .int .i64 n] w (PutOk B xs n v.ownBlock w) := by
  have Hz := Lib.hid (zig_lt n h1 h2)
  have Hown := Lib.hid hown
  clear hown
  obtain ⟨i0, hi, hz0, hz1, hz2⟩ := info_parts info_u8
  obtain ⟨z0, hz⟩ : ∃ z0, z0 = zig n := ⟨_, rfl⟩
  have HL : Hid (putF 8 z0 = putL n) := by show _ = _; rw [hz]; rfl
  have HZ : Hid (z0 < 128 ^ 8) := by show _ < _; rw [hz]; exact Hz.out
  have hsgn : (n < 0 ∧ -2 * n - 1 = (z0 : Int)) ∨ (¬ n < 0 ∧ 2 * n = (z0 : Int)) := by
    rw [hz]; unfold zig; split <;> omega
  clear hz Hz
  rcases hsgn with ⟨hn, he⟩ | ⟨hn, he⟩
  all_goals
    go_enter Tryd.func42, Tryd.ntmps42
    go_wp2_with fail
    clear he hn
    go_loopw [0, 5] (fun u iv wr => ∃ (pre : List Int) (k z : Nat), iv = .int .i64 z ∧ pre.length + (k + 1) = 8 ∧ z ≤ 72057594037927936 ∧ Hid (z < 128 ^ (k + 1)) ∧ Hid (pre ++ putF (k + 1) z = putL n) ∧ Hid (wr.ownsRow B 5 1 u (xs.length + pre.length) (u8s (xs ++ pre))) ∧ Below B w wr ∧ Hid (Keeps w wr v.ownBlock u.ownBlock)) (fun _ iv _ => (intOf iv).toNat)
    case atStart => exact ⟨[], 7, z0, rfl, rfl, by have := HZ.out; omega, HZ.out, HL.out, by show World.ownsRow _ _ _ _ _ _ _; simpa using Hown.out, Below.refl _ _, Keeps.refl _ _⟩
    case round =>
      obtain ⟨pre, k, z, rfl, hpk, hzb, Hzk, Hpre, Hr, hbr, Hk⟩ := hrel
      have hwz : B ≤ wr.heap.size := by have := hbr.size; omega
      by_cases hlt : 128 ≤ z
      · have Hst := Lib.hid (put_step pre k z _ Hpre.out hlt)
        obtain ⟨k, rfl⟩ : ∃ k', k = k' + 1 := by
          cases k with
          | zero => exfalso; have := Hzk.out; simp at this; omega
          | succ k => exact ⟨k, rfl⟩
        have Hzk2 : Hid (z / 128 < 128 ^ (k + 1)) := by
          show _ < _
          have := Hzk.out; rw [Nat.pow_succ] at this; omega
        go_wp2_with (at_builtin; refine wpList_append_own_at _ rfl _ _ 47 rfl B 5 i0 (.int .u8 0) 1 1 Tryd.underlying47 hi hz0 hz1 hz2 rfl (by decide) _ (xs.length + pre.length) (u8s (xs ++ pre)) rfl (Hr.out.alloc _) ⟨wr.heap.size, 0, none⟩ 1 1 [.int .u8 ((z : Int) % 128 + 128)] rfl rfl ?c1 ?c2 ?c3 ?c4 ?c5 ?_)
        case c1 => exact cell_one_new _ _ _
        case c2 => intro u hu; simp at hu; subst hu; rfl
        case c3 => unfold maxLen; omega
        case c4 => omega
        case c5 => simp; omega
        intro v' w1 hown1 hgrow1 _ hat
        have hb1 : Hid (Below B w w1) := (hbr.alloc hwz _).grown hgrow1 (by simp; omega) (fun g hg => own_ge Hr.out hg)
        have hown2 : Hid (w1.ownsRow B 5 1 v' (xs.length + (pre ++ [((z : Int) % 128 + 128)]).length) (u8s (xs ++ (pre ++ [((z : Int) % 128 + 128)])))) := by
          show World.ownsRow _ _ _ _ _ _ _
          rw [← List.append_assoc, List.length_append, List.length_singleton, ← Nat.add_assoc]
          unfold u8s at hown1 ⊢; rw [List.map_append]; exact hown1
        have hk1 : Hid (Keeps w w1 v.ownBlock v'.ownBlock) := Hk.out.trans ((Keeps.alloc _ _ _).trans (Keeps.grown hgrow1 (by simpa using hat)))
        clear hown1 hgrow1 hbr hat
        go_wp2_with fail
        go_roundw
        case rel => exact ⟨pre ++ [((z : Int) % 128 + 128)], k, z / 128, by simp, by simp; omega, by omega, Hzk2, Hst, hown2, hb1.out, hk1⟩
        case measure => simp [intOf]; omega
      · have hL := Lib.hid (put_last pre k z _ Hpre.out (by omega))
        go_wp2_with (at_builtin; refine wpList_append_own_at _ rfl _ _ 47 rfl B 5 i0 (.int .u8 0) 1 1 Tryd.underlying47 hi hz0 hz1 hz2 rfl (by decide) _ (xs.length + pre.length) (u8s (xs ++ pre)) rfl (Hr.out.alloc _) ⟨wr.heap.size, 0, none⟩ 1 1 [.int .u8 (z : Int)] rfl rfl ?c1 ?c2 ?c3 ?c4 ?c5 ?_)
        case c1 => exact cell_one_new _ _ _
        case c2 => intro u hu; simp at hu; subst hu; rfl
        case c3 => unfold maxLen; omega
        case c4 => omega
        case c5 => simp; omega
        intro v' w1 hown1 hgrow1 _ hat
        have hb1 : Below B w w1 := (hbr.alloc hwz _).grown hgrow1 (by simp; omega) (fun g hg => own_ge Hr.out hg)
        have hown2 : Hid (w1.ownsRow B 5 1 v' (xs ++ putL n).length (u8s (xs ++ putL n))) := by
          show World.ownsRow _ _ _ _ _ _ _
          rw [← hL.out, ← List.append_assoc, List.length_append, List.length_append, List.length_singleton]
          unfold u8s at hown1 ⊢; rw [List.map_append]; exact hown1
        have hk1 : Hid (Keeps w w1 v.ownBlock v'.ownBlock) := Hk.out.trans ((Keeps.alloc _ _ _).trans (Keeps.grown hgrow1 (by simpa using hat)))
        clear hown1 hgrow1 hbr hat
        go_wp2_with fail
        go_ret
        exact ⟨_, rfl, hown2.out, hb1, hk1.out⟩
end Go.Proofs.YtbcbjefonkbjnaaDoor
