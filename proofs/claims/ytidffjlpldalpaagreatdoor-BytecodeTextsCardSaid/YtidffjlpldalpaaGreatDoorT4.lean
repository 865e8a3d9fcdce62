/- put: the code of a number; sum. sum. A line of numbers after a word. -/
import Derived.Test.YtidffjlpldalpaaGreatDoorT1
import Derived.Maps.AppendAt
import Derived.Test.YtidffjlpldalpaaGreatDoorShelf
import Derived.Lib.ItoaLen
set_option linter.unusedVariables false
set_option linter.unusedSimpArgs false
namespace Go.Proofs.YtidffjlpldalpaaGreatDoor
open Go Go.RowKit

def u8s (l : List Int) : List Value := l.map (Value.int .u8)
def putF : Nat → Nat → List Int
  | 0, _ => []
  | k + 1, z => if z < 128 then [(z : Int)] else ((z : Int) % 128 + 128) :: putF k (z / 128)
def zig (n : Int) : Nat := if n < 0 then (-2 * n - 1).toNat else (2 * n).toNat
def putL (n : Int) : List Int := putF 8 (zig n)
theorem info_u8 : (Tryz.prog.info? 5).map (fun i => (i.zero, i.size, i.bytes)) = some (some (.int .u8 0), 1, 1) := by kernel_rfl
/-- All blocks but the row's own one are as they were; the row lies where it lay, or in a new block. -/
structure Keeps (w w' : World) (r r' : Option Nat) : Prop where
  kept : ∀ k, k < w.heap.size → r ≠ some k → w'.heap[k]? = w.heap[k]?
  own : r' = r ∨ ∃ g, r' = some g ∧ w.heap.size ≤ g
  size : w.heap.size ≤ w'.heap.size
theorem Keeps.refl (w : World) (r : Option Nat) : Keeps w w r r := ⟨fun _ _ _ => rfl, Or.inl rfl, Nat.le_refl _⟩
theorem Keeps.apart {w w' : World} {r r' : Option Nat} (h : Keeps w w' r r') {k : Nat} (hk : k < w.heap.size) (hr : r ≠ some k) : r' ≠ some k ∧ w'.heap[k]? = w.heap[k]? := by
  refine ⟨?_, h.kept k hk hr⟩
  rcases h.own with h | ⟨g, h, hg⟩
  · rw [h]; exact hr
  · rw [h]; intro e; cases e; omega
theorem Keeps.trans {a b c : World} {r s t : Option Nat} (h : Keeps a b r s) (k : Keeps b c s t) : Keeps a c r t := by
  refine ⟨fun q hq hr => ?_, ?_, Nat.le_trans h.size k.size⟩
  · obtain ⟨h1, h2⟩ := h.apart hq hr
    rw [k.kept q (Nat.lt_of_lt_of_le hq h.size) h1, h2]
  · rcases k.own with e | ⟨g, e, hg⟩
    · rw [e]; exact h.own
    · exact Or.inr ⟨g, e, Nat.le_trans h.size hg⟩
theorem Keeps.alloc (w : World) (o : Obj) (r : Option Nat) : Keeps w (w.alloc o) r r := ⟨fun k hk _ => Below.heap_alloc w o k hk, Or.inl rfl, by simp⟩
theorem Keeps.grown {w w' : World} {r r' : Option Nat} (h : w.grownBy w' r) (ho : r' = r ∨ r' = some w.heap.size) : Keeps w w' r r' :=
  ⟨fun k hk hr => h.block k hk (Ne.symm hr), ho.imp id fun e => ⟨_, e, Nat.le_refl _⟩, h.size⟩
def PutOk (B : Nat) (xs : List Int) (n : Int) (r : Option Nat) (w : World) (e : Ending) (w' : World) : Prop :=
  ∃ v, e = .returned v ∧ w'.ownsRow B 5 1 v (xs ++ putL n).length (u8s (xs ++ putL n)) ∧ Below B w w' ∧ Keeps w w' r v.ownBlock
theorem put_step (pre : List Int) (k z : Nat) (l : List Int) (h : pre ++ putF (k + 1) z = l) (hz : 128 ≤ z) : (pre ++ [((z : Int) % 128 + 128)]) ++ putF k (z / 128) = l := by
  rw [← h]; simp [putF, show ¬ z < 128 by omega]
theorem put_last (pre : List Int) (k z : Nat) (l : List Int) (h : pre ++ putF (k + 1) z = l) (hz : z < 128) : pre ++ [(z : Int)] = l := by
  rw [← h]; simp [putF, hz]
theorem zig_lt (n : Int) (h1 : -4503599627370497 ≤ n) (h2 : n ≤ 4503599627370497) : zig n < 128 ^ 8 := by unfold zig; split <;> omega
set_option maxHeartbeats 1000000 in
set_option maxRecDepth 100000 in
theorem put_any (B : Nat) (v : Value) (xs : List Int) (n : Int) (w : World) (hB : B ≤ w.heap.size) (hx : xs.length ≤ 10000000) (h1 : -4503599627370497 ≤ n) (h2 : n ≤ 4503599627370497)
    (hown : w.ownsRow B 5 1 v xs.length (u8s xs)) :
    Calls Tryz.prog 47 #[v, .int .i64 n] w (PutOk B xs n v.ownBlock w) := by
  have Hz := Lib.hid (zig_lt n h1 h2)
  have Hown := Lib.hid hown
  clear hown
  obtain ⟨i0, hi, hz0, hz1, hz2⟩ := info_parts info_u8
  obtain ⟨z0, hz⟩ : ∃ z0, z0 = zig n := ⟨_, rfl⟩
  have HL : Hid (putF 8 z0 = putL n) := by show _ = _; rw [hz]; rfl
  have HZ : Hid (z0 < 128 ^ 8) := by show _ < _; rw [hz]; exact Hz.out
  have hsgn : (n < 0 ∧ -2 * n - 1 = (z0 : Int)) ∨ (¬ n < 0 ∧ 2 * n = (z0 : Int)) := by
    rw [hz]; unfold zig; split <;> omega
  clear hz Hz
  rcases hsgn with ⟨hn, he⟩ | ⟨hn, he⟩
  all_goals
    go_enter Tryz.func47, Tryz.ntmps47
    go_wp2_with fail
    clear he hn
    go_loopw [0, 5] (fun u iv wr => ∃ (pre : List Int) (k z : Nat), iv = .int .i64 z ∧ pre.length + (k + 1) = 8 ∧ z ≤ 72057594037927936 ∧ Hid (z < 128 ^ (k + 1)) ∧ Hid (pre ++ putF (k + 1) z = putL n) ∧ Hid (wr.ownsRow B 5 1 u (xs.length + pre.length) (u8s (xs ++ pre))) ∧ Below B w wr ∧ Hid (Keeps w wr v.ownBlock u.ownBlock)) (fun _ iv _ => (intOf iv).toNat)
    case atStart => exact ⟨[], 7, z0, rfl, rfl, by have := HZ.out; omega, HZ.out, HL.out, by show World.ownsRow _ _ _ _ _ _ _; simpa using Hown.out, Below.refl _ _, Keeps.refl _ _⟩
    case round =>
      obtain ⟨pre, k, z, rfl, hpk, hzb, Hzk, Hpre, Hr, hbr, Hk⟩ := hrel
      have hwz : B ≤ wr.heap.size := by have := hbr.size; omega
      by_cases hlt : 128 ≤ z
      · have Hst := Lib.hid (put_step pre k z _ Hpre.out hlt)
        obtain ⟨k, rfl⟩ : ∃ k', k = k' + 1 := by
          cases k with
          | zero => exfalso; have := Hzk.out; simp at this; omega
          | succ k => exact ⟨k, rfl⟩
        have Hzk2 : Hid (z / 128 < 128 ^ (k + 1)) := by
          show _ < _
          have := Hzk.out; rw [Nat.pow_succ] at this; omega
        go_wp2_with (at_builtin; refine wpList_append_own_at _ rfl _ _ 38 rfl B 5 i0 (.int .u8 0) 1 1 Tryz.underlying38 hi hz0 hz1 hz2 rfl (by decide) _ (xs.length + pre.length) (u8s (xs ++ pre)) rfl (Hr.out.alloc _) ⟨wr.heap.size, 0, none⟩ 1 1 [.int .u8 ((z : Int) % 128 + 128)] rfl rfl ?c1 ?c2 ?c3 ?c4 ?c5 ?_)
        case c1 => exact cell_one_new _ _ _
        case c2 => intro u hu; simp at hu; subst hu; rfl
        case c3 => unfold maxLen; omega
        case c4 => omega
        case c5 => simp; omega
        intro v' w1 hown1 hgrow1 _ hat
        have hb1 : Hid (Below B w w1) := (hbr.alloc hwz _).grown hgrow1 (by simp; omega) (fun g hg => own_ge Hr.out hg)
        have hown2 : Hid (w1.ownsRow B 5 1 v' (xs.length + (pre ++ [((z : Int) % 128 + 128)]).length) (u8s (xs ++ (pre ++ [((z : Int) % 128 + 128)])))) := by
          show World.ownsRow _ _ _ _ _ _ _
          rw [← List.append_assoc, List.length_append, List.length_singleton, ← Nat.add_assoc]
          unfold u8s at hown1 ⊢; rw [List.map_append]; exact hown1
        have hk1 : Hid (Keeps w w1 v.ownBlock v'.ownBlock) := Hk.out.trans ((Keeps.alloc _ _ _).trans (Keeps.grown hgrow1 (by simpa using hat)))
        clear hown1 hgrow1 hbr hat
        go_wp2_with fail
        go_roundw
        case rel => exact ⟨pre ++ [((z : Int) % 128 + 128)], k, z / 128, by simp, by simp; omega, by omega, Hzk2, Hst, hown2, hb1.out, hk1⟩
        case measure => simp [intOf]; omega
      · have hL := Lib.hid (put_last pre k z _ Hpre.out (by omega))
        go_wp2_with (at_builtin; refine wpList_append_own_at _ rfl _ _ 38 rfl B 5 i0 (.int .u8 0) 1 1 Tryz.underlying38 hi hz0 hz1 hz2 rfl (by decide) _ (xs.length + pre.length) (u8s (xs ++ pre)) rfl (Hr.out.alloc _) ⟨wr.heap.size, 0, none⟩ 1 1 [.int .u8 (z : Int)] rfl rfl ?c1 ?c2 ?c3 ?c4 ?c5 ?_)
        case c1 => exact cell_one_new _ _ _
        case c2 => intro u hu; simp at hu; subst hu; rfl
        case c3 => unfold maxLen; omega
        case c4 => omega
        case c5 => simp; omega
        intro v' w1 hown1 hgrow1 _ hat
        have hb1 : Below B w w1 := (hbr.alloc hwz _).grown hgrow1 (by simp; omega) (fun g hg => own_ge Hr.out hg)
        have hown2 : Hid (w1.ownsRow B 5 1 v' (xs ++ putL n).length (u8s (xs ++ putL n))) := by
          show World.ownsRow _ _ _ _ _ _ _
          rw [← hL.out, ← List.append_assoc, List.length_append, List.length_append, List.length_singleton]
          unfold u8s at hown1 ⊢; rw [List.map_append]; exact hown1
        have hk1 : Hid (Keeps w w1 v.ownBlock v'.ownBlock) := Hk.out.trans ((Keeps.alloc _ _ _).trans (Keeps.grown hgrow1 (by simpa using hat)))
        clear hown1 hgrow1 hbr hat
        go_wp2_with fail
        go_ret
        exact ⟨_, rfl, hown2.out, hb1, hk1.out⟩

def sumK (l : List Int) : Nat → Int
  | 0 => 0
  | k + 1 => (sumK l k + ((k : Int) + 1) % 65521 * l.getD k 0) % 65521
def AreBytes (l : List Int) : Prop := ∀ x ∈ l, 0 ≤ x ∧ x < 256
theorem AreBytes.at {l : List Int} (h : AreBytes l) (k : Nat) (hk : k < l.length) : 0 ≤ l.getD k 0 ∧ l.getD k 0 < 256 := by
  have : l.getD k 0 = l[k] := by simp [List.getD, hk]
  rw [this]; exact h _ (List.getElem_mem hk)
theorem sumK_lt (l : List Int) : ∀ k, 0 ≤ sumK l k ∧ sumK l k < 65521
  | 0 => by simp [sumK]
  | k + 1 => by
    unfold sumK
    exact ⟨Int.emod_nonneg _ (by omega), Int.emod_lt_of_pos _ (by omega)⟩
theorem u8s_at (l : List Int) (k : Nat) (h : k < l.length) : (u8s l).getD k undef = .int .u8 (l.getD k 0) := by simp [u8s, List.getD, h]
theorem u8s_length (l : List Int) : (u8s l).length = l.length := by simp [u8s]
theorem mul_small (a b : Int) (h1 : 0 ≤ a) (h2 : a < 65521) (h3 : 0 ≤ b) (h4 : b < 256) : 0 ≤ a * b ∧ a * b ≤ 16773120 := by
  refine ⟨Int.mul_nonneg h1 h3, ?_⟩
  calc a * b ≤ 65520 * b := Int.mul_le_mul_of_nonneg_right (by omega) h3
    _ ≤ 16773120 := by omega
set_option maxHeartbeats 1000000 in
set_option maxRecDepth 100000 in
theorem sum_any (v : Value) (l : List Int) (w : World) (hl : l.length ≤ 100000000) (hb : AreBytes l) (h : IsRow w v l.length (u8s l)) :
    Calls Tryz.prog 48 #[v] w fun e w' => e = .returned (.int .i64 (sumK l l.length)) ∧ w = w' := by
  obtain ⟨a, c, rfl, hlc, hcell⟩ := h
  have Hcell := Lib.hid hcell
  clear hcell
  go_enter Tryz.func48, Tryz.ntmps48
  go_wp2_with fail
  go_loop [3, 8] (fun n i => ∃ k : Nat, k ≤ l.length ∧ i = .int .i64 k ∧ n = .int .i64 (sumK l k)) (fun _ i => l.length - (intOf i).toNat)
  case atStart => exact ⟨0, Nat.zero_le _, rfl, rfl⟩
  case round =>
    obtain ⟨k, hk, rfl, rfl⟩ := hrel
    by_cases hkl : k < l.length
    · obtain ⟨b, off, rfl, hlt, hc⟩ := Hcell.out (by omega)
      have hcx := hc k (by rw [u8s_length]; exact hkl)
      rw [u8s_at l k hkl] at hcx
      obtain ⟨x0, x1⟩ := hb.at k hkl
      obtain ⟨s0, s1⟩ := sumK_lt l k
      have hnx : Hid (sumK l (k + 1) = (sumK l k + ((k : Int) + 1) % 65521 * l.getD k 0) % 65521) := rfl
      generalize l.getD k 0 = x at *
      generalize hs : sumK l k = s at *
      obtain ⟨m0, m1⟩ := mul_small (((k : Int) + 1) % 65521) x (by omega) (by omega) x0 x1
      clear hc hs Hcell
      go_wp2_with fail
      go_round
      case rel => exact ⟨k + 1, by omega, by go_num, by rw [hnx.out]⟩
      case measure => simp [intOf]; omega
    · obtain rfl : k = l.length := by omega
      go_wp2_with fail
      go_ret
      exact ⟨rfl, rfl⟩

def numS (x : Int) : ByteArray := ⟨(Lib.itoa x).toArray⟩
def lineK (s : ByteArray) (l : List Int) : Nat → ByteArray
  | 0 => s
  | k + 1 => lineK s l k ++ (⟨#[32]⟩ ++ numS (l.getD k 0))
def lineS (s : ByteArray) (l : List Int) : ByteArray := lineK s l l.length ++ ⟨#[10]⟩
/-- Itoa answers at the numbers of l, in every world behind w. -/
def ItoaOk (w : World) (l : List Int) : Prop :=
  ∀ w', Below w.heap.size w w' → ∀ x ∈ l, Calls Tryz.prog 52 #[.int .i64 x] w' fun e w2 => e = .returned (.string (numS x)) ∧ Below w'.heap.size w' w2
def Short (l : List Int) : Prop := ∀ x ∈ l, (numS x).size ≤ 21
theorem getD_mem {α : Type} (d : α) (l : List α) (k : Nat) (h : k < l.length) : l.getD k d ∈ l := by
  have : l.getD k d = l[k] := by simp [List.getD, h]
  rw [this]; exact List.getElem_mem h
theorem lineK_size (s : ByteArray) (l : List Int) (h : Short l) : ∀ k, k ≤ l.length → (lineK s l k).size ≤ s.size + 22 * k
  | 0, _ => by simp [lineK]
  | k + 1, hk => by
    have ih := lineK_size s l h k (by omega)
    have := h _ (getD_mem 0 l k (by omega))
    unfold lineK
    simp only [ByteArray.size_append]
    have e : (ByteArray.mk #[32]).size = 1 := rfl
    omega
set_option maxHeartbeats 1000000 in
set_option maxRecDepth 100000 in
theorem line_any (s : ByteArray) (l : List Int) (v : Value) (w : World) (hl : l.length ≤ 1000000) (hs : s.size ≤ 1000000) (hsh : Short l) (hI : ItoaOk w l) (h : IsRow w v l.length (ints l)) :
    Calls Tryz.prog 22 #[.string s, v] w fun e w' => e = .returned (.string (lineS s l)) ∧ Below w.heap.size w w' := by
  obtain ⟨a, c, rfl, hlc, hcell⟩ := h
  have Hcell := Lib.hid hcell
  have HI := Lib.hid hI
  clear hcell hI
  go_enter Tryz.func22, Tryz.ntmps22
  go_wp2_with fail
  go_loopw [0, 9] (fun t i wr => ∃ k : Nat, k ≤ l.length ∧ i = .int .i64 k ∧ t = .string (lineK s l k) ∧ Below w.heap.size w wr) (fun _ i _ => l.length - (intOf i).toNat)
  case atStart => exact ⟨0, Nat.zero_le _, rfl, rfl, Below.refl _ _⟩
  case round =>
    obtain ⟨k, hk, rfl, rfl, hbr⟩ := hrel
    have hz := lineK_size s l hsh k hk
    by_cases hkl : k < l.length
    · obtain ⟨b, off, rfl, hlt, hc⟩ := Hcell.out (by omega)
      have hcx := hc k (by rw [ints_length]; exact hkl)
      rw [ints_at l k hkl, ← hbr.cell (p := ⟨b, off + k, none⟩) hlt] at hcx
      have hm := getD_mem 0 l k hkl
      have hxs := hsh _ hm
      have HX := HI.out wr hbr _ hm
      have hnx : Hid (lineK s l (k + 1) = lineK s l k ++ (⟨#[32]⟩ ++ numS (l.getD k 0))) := rfl
      generalize l.getD k 0 = x at *
      generalize hs : lineK s l k = t at *
      have HX := Lib.hid HX
      have h32 : (ByteArray.mk #[32] ++ numS x).size = 1 + (numS x).size := by simp only [ByteArray.size_append]; rfl
      have g1 : ¬ (9223372036854775807 < 1 + (numS x).size) := by omega
      have g2 : ¬ (9223372036854775807 < t.size + (1 + (numS x).size)) := by omega
      clear hc hs Hcell hm
      go_wp2_with fail
      refine HX.out.mono ?_
      rintro e w2 ⟨rfl, hb2⟩
      have hb3 : Below w.heap.size w w2 := hbr.trans (hb2.mono hbr.size)
      generalize numS x = nx at *
      go_wp2_with fail
      go_round
      case rel => exact ⟨k + 1, by omega, by go_num, by rw [hnx.out], hb3⟩
      case measure => simp [intOf]; omega
    · obtain rfl : k = l.length := by omega
      have e1 : lineS s l = lineK s l l.length ++ ⟨#[10]⟩ := rfl
      have g1 : ¬ (9223372036854775807 < (lineK s l l.length).size + 1) := by omega
      go_wp2_with fail
      go_ret
      exact ⟨rfl, hbr⟩
theorem itoa_small (w : World) (l : List Int) (h : ∀ x ∈ l, 0 ≤ x ∧ x < 100) : ItoaOk w l := by
  intro w' _ x hx
  obtain ⟨x0, x1⟩ := h x hx
  obtain ⟨i, rfl⟩ := Int.eq_ofNat_of_zero_le x0
  refine (Tryz.strconv_Itoa_small i (by omega) w').mono ?_
  rintro e w2 ⟨rfl, rfl⟩
  refine ⟨?_, Below.refl _ _⟩
  unfold numS Lib.itoa
  rw [if_neg (by omega)]
  rfl
theorem short_of (l : List Int) (h : ∀ x ∈ l, -9223372036854775808 ≤ x ∧ x ≤ 9223372036854775807) : Short l := by
  intro x hx
  have := Lib.itoa_length_le x (h x hx).1 (h x hx).2
  unfold numS
  simpa [ByteArray.size] using this
end Go.Proofs.YtidffjlpldalpaaGreatDoor
