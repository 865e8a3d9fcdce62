/- great: the walk. -/
import Derived.Test.YtbcbjefonkbjnaaDoorBc22
namespace Go.Proofs.YtbcbjefonkbjnaaDoor
open Go Go.RowKit

def capLen (s : ByteArray) : Int := min (s.size : Int) 20000
def sumTK (l : List ByteArray) : Nat → Int
  | 0 => 0
  | k + 1 => sumTK l k + capLen (l.getD k default)
theorem sumTK_bound (l : List ByteArray) : ∀ k, 0 ≤ sumTK l k ∧ sumTK l k ≤ 20000 * k
  | 0 => by simp [sumTK]
  | k + 1 => by
    have := sumTK_bound l k
    unfold sumTK capLen
    omega
def greatB (p : ProgD) : Bool := decide (60 < p.funs.length) || (decide (60 < p.texts.length) || (decide (17000 < sumTK p.texts p.texts.length) || p.funs.any longB))
def GreatOk (p : ProgD) (w : World) (e : Ending) (w' : World) : Prop := e = .returned (.bool (greatB p)) ∧ Below w.heap.size w w'
theorem great_f (p : ProgD) (h : 60 < p.funs.length) : greatB p = true := by unfold greatB; simp [h]
theorem great_t (p : ProgD) (h : 60 < p.texts.length) : greatB p = true := by unfold greatB; simp [h]
theorem great_s (p : ProgD) (h : 17000 < sumTK p.texts p.texts.length) : greatB p = true := by unfold greatB; simp [h]
theorem great_l (p : ProgD) (h0 : ¬ 60 < p.funs.length) (h1 : ¬ 60 < p.texts.length) (h2 : ¬ 17000 < sumTK p.texts p.texts.length) : greatB p = p.funs.any longB := by
  unfold greatB; rw [decide_eq_false h0, decide_eq_false h1, decide_eq_false h2]; rfl
set_option maxHeartbeats 2000000 in
set_option maxRecDepth 100000 in
theorem great_any (fv tv : Value) (p : ProgD) (w : World) (h : IsProg w fv tv p) (hfl : p.funs.length ≤ 9223372036854775807) (htl : p.texts.length ≤ 9223372036854775807) :
    Calls Tryd.prog 8 #[.agg #[fv, tv, .int .i64 p.main]] w (GreatOk p w) := by
  have Hp := Lib.hid h
  have hs0 : Below w.heap.size w (w.alloc (.cells #[fv, tv, .int .i64 p.main] 25)) := (Below.refl _ _).alloc (Nat.le_refl _) _
  obtain ⟨⟨⟨fa, fc, rfl, hfc, _⟩, _⟩, ⟨ta, tc, rfl, htc, _⟩⟩ := h
  have g0 : ∀ o v, (#[Value.slice fa p.funs.length fc, .slice ta p.texts.length tc, .int .i64 p.main] : Array Value)[o]? = some v → (w.alloc (.cells #[.slice fa p.funs.length fc, .slice ta p.texts.length tc, .int .i64 p.main] 25)).cell? ⟨w.heap.size, o, none⟩ = some v := fun o v hv => by rw [cell_new]; exact hv
  have p0 := g0 0 _ rfl
  have p1 := g0 1 _ rfl
  clear g0
  by_cases ht : 60 < p.texts.length
  · have Hg := Lib.hid (great_t p ht)
    go_enter Tryd.func8, Tryd.ntmps8
    go_wp2_with fail
    generalize w.alloc (.cells #[.slice fa p.funs.length fc, .slice ta p.texts.length tc, .int .i64 p.main] 25) = W at *
    go_loop [3, 9] (fun n i => ∃ (k : Nat) (x : Int), k ≤ p.texts.length ∧ i = .int .i64 k ∧ n = .int .i64 x) (fun _ i => p.texts.length - (intOf i).toNat)
    case atStart => exact ⟨0, 0, Nat.zero_le _, rfl, rfl⟩
    case round =>
      obtain ⟨k, x, hk, rfl, rfl⟩ := hrel
      by_cases hkl : k < p.texts.length
      · obtain ⟨b, off, tc', fd, _, hbl, c0⟩ := texts_at Hp.out.2 k hkl
        obtain rfl := (Value.slice.inj fd).1
        have d0 := (hs0.cell (p := ⟨b, off + k, none⟩) hbl).trans c0
        clear c0 fd
        generalize p.texts.getD k default = s at *
        go_wp2_with fail
        go_round
        case rel => exact ⟨k + 1, _, by omega, by go_num, rfl⟩
        case measure => simp [intOf]; omega
      · by_cases hf : 60 < p.funs.length
        · go_wp2_with fail
          go_ret
          exact ⟨by rw [Hg.out]; rfl, hs0⟩
        · go_wp2_with fail
          go_ret
          exact ⟨by rw [Hg.out]; rfl, hs0⟩
  · go_enter Tryd.func8, Tryd.ntmps8
    go_wp2_with fail
    generalize w.alloc (.cells #[.slice fa p.funs.length fc, .slice ta p.texts.length tc, .int .i64 p.main] 25) = W at *
    go_loop [3, 9] (fun n i => ∃ (k : Nat), k ≤ p.texts.length ∧ i = .int .i64 k ∧ n = .int .i64 (sumTK p.texts k)) (fun _ i => p.texts.length - (intOf i).toNat)
    case atStart => exact ⟨0, Nat.zero_le _, rfl, rfl⟩
    case round =>
      obtain ⟨k, hk, rfl, rfl⟩ := hrel
      obtain ⟨s0, s1⟩ := sumTK_bound p.texts k
      by_cases hkl : k < p.texts.length
      · obtain ⟨b, off, tc', fd, _, hbl, c0⟩ := texts_at Hp.out.2 k hkl
        obtain rfl := (Value.slice.inj fd).1
        have d0 := (hs0.cell (p := ⟨b, off + k, none⟩) hbl).trans c0
        have hnx : Hid (sumTK p.texts (k + 1) = sumTK p.texts k + min ((p.texts.getD k default).size : Int) 20000) := rfl
        clear c0 fd
        generalize p.texts.getD k default = s at *
        generalize hx : sumTK p.texts k = x at *
        clear hx
        have hm0 : 0 ≤ min (s.size : Int) 20000 := by omega
        have hm1 : min (s.size : Int) 20000 ≤ 20000 := by omega
        have hx2 : x ≤ 1200000 := by omega
        go_wp2_with fail
        go_round
        case rel => exact ⟨k + 1, by omega, by go_num, by rw [hnx.out]⟩
        case measure => simp [intOf]; omega
      · obtain rfl : k = p.texts.length := by omega
        have Hs := Lib.hid (great_s p)
        have Hl := Lib.hid (fun h0 => great_l p h0 ht)
        have Hff := Lib.hid (great_f p)
        by_cases hf : 60 < p.funs.length
        · go_wp2_with fail
          go_ret
          exact ⟨by rw [Hff.out hf]; rfl, hs0⟩
        · generalize sumTK p.texts p.texts.length = x at *
          by_cases h17 : 17000 < x
          · go_wp2_with fail
            go_ret
            exact ⟨by rw [Hs.out h17]; rfl, hs0⟩
          · have Hl' := Lib.hid (Hl.out hf h17)
            have HC := Lib.hid (containsG_any _ p.funs W (Hp.out.1.below hs0) (by omega))
            go_wp2_with fail
            refine HC.out.mono ?_
            rintro e w' ⟨rfl, hb⟩
            go_wp2_with fail
            go_ret
            refine ⟨ret_bool (a := decide (60 < (p.funs.length : Int)) || decide (60 < (p.texts.length : Int)) || p.funs.any longB) ?_, hs0.trans (hb.mono hs0.size)⟩
            rw [Hl'.out, decide_eq_false (by omega), decide_eq_false (by omega)]; rfl
/-- What is not great. -/
theorem great_no (p : ProgD) (h : greatB p = false) : p.funs.length ≤ 60 ∧ p.texts.length ≤ 60 ∧ (∀ f ∈ p.funs, f.code.length ≤ 60) ∧ sumTK p.texts p.texts.length ≤ 17000 := by
  unfold greatB at h
  simp only [Bool.or_eq_false_iff, decide_eq_false_iff_not] at h
  obtain ⟨h0, h1, h2, h3⟩ := h
  refine ⟨by omega, by omega, fun f hf => ?_, by omega⟩
  have := List.any_eq_false.1 h3 f hf
  simp [longB] at this
  exact this
end Go.Proofs.YtbcbjefonkbjnaaDoor
