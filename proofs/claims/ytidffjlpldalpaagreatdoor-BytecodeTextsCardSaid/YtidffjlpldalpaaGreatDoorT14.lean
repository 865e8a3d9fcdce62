/- great of law 46. great: the walk. BytecodeDamage: the plain law. BytecodeInstrs: the walk. BytecodeFlow: the plain law; the look at the targets. slices.Clone of bytes; Decode where the sum is wrong; none of nothing. BytecodeFlow's look at the targets. BytecodeFlow: the walk. none of nothing; BytecodeDamage: the walk. -/
import Derived.Test.YtidffjlpldalpaaGreatDoorT13
import Derived.Test.YtidffjlpldalpaaGreatDoorT10
import Derived.Test.YtidffjlpldalpaaGreatDoorT1
import Derived.Laws.BitsAllLaws
import Derived.Laws.ResultCell
import Derived.Lib.SliceRun
set_option linter.unusedVariables false
set_option linter.unusedSimpArgs false
namespace Go.Proofs.YtidffjlpldalpaaGreatDoor
open Go Go.RowKit

def longB (f : FunD) : Bool := decide (60 < f.code.length)
theorem great1_any (f : FunD) (w : World) (h : ∃ a c, f.v = .slice a f.code.length c) : Calls Tryz.prog 20 #[.agg #[.int .i64 f.c, .int .i64 f.l, .int .i64 f.d, f.v]] w fun e w' => e = .returned (.bool (longB f)) ∧ Below w.heap.size w w' := by
  obtain ⟨c, l, d, v, code⟩ := f
  obtain ⟨a, cc, hv⟩ := h
  simp only at hv
  subst hv
  obtain ⟨bb, hbb⟩ : ∃ bb, longB ⟨c, l, d, .slice a code.length cc, code⟩ = bb := ⟨_, rfl⟩
  have Hbb := Lib.hid hbb
  have hb : decide (60 < code.length) = bb := hbb
  clear hbb
  go_enter Tryz.func20, Tryz.ntmps20
  go_wp2_with fail
  go_ret
  refine ⟨?_, (Below.refl _ _).alloc (Nat.le_refl _) _⟩
  rw [Hbb.out, ← hb]
  simp only [Ending.returned.injEq]
  first | rfl | (refine congrArg Value.bool (decide_eq_decide.2 ?_); omega)
set_option maxRecDepth 100000 in
theorem indexG_any (v : Value) (l : List FunD) (w : World) (h : IsFuns w v l) (hl : l.length ≤ 1000000) :
    Calls Tryz.prog 50 #[v, .func (.func 20) #[] #[]] w (AnyW (l.any longB) w) := by
  have HT : Hid (∀ k, k < l.length → ∀ w, Calls Tryz.prog 20 #[.agg #[.int .i64 (l.getD k default).c, .int .i64 (l.getD k default).l, .int .i64 (l.getD k default).d, (l.getD k default).v]] w fun e w' => e = .returned (.bool (longB (l.getD k default))) ∧ Below w.heap.size w w') := fun k hk w => great1_any _ w (by obtain ⟨a, c, hv, _⟩ := h.2 _ (getD_mem default l k hk); exact ⟨a, c, hv⟩)
  have Hf := Lib.hid h
  obtain ⟨⟨a', c', rfl, hlc, hcell⟩, _⟩ := h
  have hb0 := Below.refl w.heap.size w
  by_cases hne : l.length = 0
  · have hnil : l = [] := List.length_eq_zero_iff.1 hne
    subst hnil
    clear hcell
    go_enter Tryz.func50, Tryz.ntmps50
    go_wp2_with fail
    go_loop [8] (fun i => i = .int .i64 0) (fun i => 0)
    case atStart => rfl
    case round =>
      subst hrel
      go_wp2_with fail
      go_ret
      exact ⟨-1, rfl, rfl, hb0⟩
  · obtain ⟨b, off, rfl, hlt, _⟩ := hcell (by omega)
    have Hc : Hid (∀ k, k < l.length → w.cell? ⟨b, off + k * 4, none⟩ = some (.int .i64 (l.getD k default).c) ∧ w.cell? ⟨b, off + k * 4 + 1, none⟩ = some (.int .i64 (l.getD k default).l) ∧ w.cell? ⟨b, off + k * 4 + 2, none⟩ = some (.int .i64 (l.getD k default).d) ∧ w.cell? ⟨b, off + k * 4 + 3, none⟩ = some (l.getD k default).v) := fun k hk => by
      obtain ⟨b', off', cx, e, _, _, h4⟩ := Hf.out.at' k hk
      obtain ⟨e1, _⟩ := Value.slice.inj e
      cases e1
      exact h4
    clear hcell
    go_enter Tryz.func50, Tryz.ntmps50
    go_wp2_with fail
    go_loopw [8] (fun i wr => (∃ k : Nat, k ≤ l.length ∧ i = .int .i64 k ∧ Hid ((l.take k).any longB = false)) ∧ Below w.heap.size w wr) (fun i _ => l.length - (intOf i).toNat)
    case atStart => exact ⟨⟨0, Nat.zero_le _, rfl, rfl⟩, hb0⟩
    case round =>
      obtain ⟨⟨k, hk, rfl, hno⟩, hbr⟩ := hrel
      by_cases hkl : k < l.length
      · obtain ⟨c0, c1, c2, c3⟩ := Hc.out k hkl
        have d0 := (hbr.cell (p := ⟨b, off + k * 4, none⟩) hlt).trans c0
        have d1 := (hbr.cell (p := ⟨b, off + k * 4 + 1, none⟩) hlt).trans c1
        have d2 := (hbr.cell (p := ⟨b, off + k * 4 + 2, none⟩) hlt).trans c2
        have d3 := (hbr.cell (p := ⟨b, off + k * 4 + 3, none⟩) hlt).trans c3
        clear c0 c1 c2 c3
        have Hn := Lib.hid (any_next default l longB k hkl hno.out)
        have Hy := Lib.hid (any_hit default l longB k hkl)
        have HT' := Lib.hid (HT.out k hkl)
        generalize l.getD k default = x at *
        go_wp2_with fail
        refine (HT'.out _).mono ?_
        rintro e w' ⟨rfl, hb1⟩
        have hb2 : Below w.heap.size w w' := hbr.trans (hb1.mono hbr.size)
        obtain ⟨bb, hbb⟩ : ∃ bb, longB x = bb := ⟨_, rfl⟩
        have Hbb := Lib.hid hbb
        rw [hbb]
        clear hbb
        cases bb
        · have hN : Hid ((l.take (k + 1)).any longB = false) := Hn.out Hbb.out
          go_wp2_with fail
          go_round
          case rel => exact ⟨⟨k + 1, by omega, by go_num, hN⟩, hb2⟩
          case measure => simp [intOf]; omega
        · go_wp2_with fail
          go_ret
          exact ⟨k, rfl, by rw [Hy.out Hbb.out]; simp, hb2⟩
      · go_wp2_with fail
        go_ret
        refine ⟨-1, rfl, ?_, hbr⟩
        have := hno.out
        rw [List.take_of_length_le (by omega)] at this
        rw [this]; rfl
theorem containsG_any (v : Value) (l : List FunD) (w : World) (h : IsFuns w v l) (hl : l.length ≤ 1000000) :
    Calls Tryz.prog 19 #[v, .func (.func 20) #[] #[]] w fun e w' => e = .returned (.bool (l.any longB)) ∧ Below w.heap.size w w' := by
  have H := Lib.hid (indexG_any v l w h hl)
  clear h
  go_enter Tryz.func19, Tryz.ntmps19
  go_wp2_with fail
  refine H.out.mono ?_
  rintro e w' ⟨r, rfl, hr, hb⟩
  have Hr := Lib.hid hr
  clear hr
  go_wp2_with fail
  go_ret
  exact ⟨ret_bool Hr.out, hb⟩

def capLen (s : ByteArray) : Int := min (s.size : Int) 20000
def sumTK (l : List ByteArray) : Nat → Int
  | 0 => 0
  | k + 1 => sumTK l k + capLen (l.getD k default)
theorem sumTK_bound (l : List ByteArray) : ∀ k, 0 ≤ sumTK l k ∧ sumTK l k ≤ 20000 * k
  | 0 => by simp [sumTK]
  | k + 1 => by
    have := sumTK_bound l k
    unfold sumTK capLen
    omega
def greatB (p : ProgD) : Bool := decide (60 < p.funs.length) || (decide (60 < p.texts.length) || (decide (17000 < sumTK p.texts p.texts.length) || p.funs.any longB))
def GreatOk (p : ProgD) (w : World) (e : Ending) (w' : World) : Prop := e = .returned (.bool (greatB p)) ∧ Below w.heap.size w w'
theorem great_f (p : ProgD) (h : 60 < p.funs.length) : greatB p = true := by unfold greatB; simp [h]
theorem great_t (p : ProgD) (h : 60 < p.texts.length) : greatB p = true := by unfold greatB; simp [h]
theorem great_s (p : ProgD) (h : 17000 < sumTK p.texts p.texts.length) : greatB p = true := by unfold greatB; simp [h]
theorem great_l (p : ProgD) (h0 : ¬ 60 < p.funs.length) (h1 : ¬ 60 < p.texts.length) (h2 : ¬ 17000 < sumTK p.texts p.texts.length) : greatB p = p.funs.any longB := by
  unfold greatB; rw [decide_eq_false h0, decide_eq_false h1, decide_eq_false h2]; rfl
set_option maxHeartbeats 2000000 in
set_option maxRecDepth 100000 in
theorem great_any (fv tv : Value) (p : ProgD) (w : World) (h : IsProg w fv tv p) (hfl : p.funs.length ≤ 9223372036854775807) (htl : p.texts.length ≤ 9223372036854775807) :
    Calls Tryz.prog 6 #[.agg #[fv, tv, .int .i64 p.main]] w (GreatOk p w) := by
  have Hp := Lib.hid h
  have hs0 : Below w.heap.size w (w.alloc (.cells #[fv, tv, .int .i64 p.main] 25)) := (Below.refl _ _).alloc (Nat.le_refl _) _
  obtain ⟨⟨⟨fa, fc, rfl, hfc, _⟩, _⟩, ⟨ta, tc, rfl, htc, _⟩⟩ := h
  have g0 : ∀ o v, (#[Value.slice fa p.funs.length fc, .slice ta p.texts.length tc, .int .i64 p.main] : Array Value)[o]? = some v → (w.alloc (.cells #[.slice fa p.funs.length fc, .slice ta p.texts.length tc, .int .i64 p.main] 25)).cell? ⟨w.heap.size, o, none⟩ = some v := fun o v hv => by rw [cell_new]; exact hv
  have p0 := g0 0 _ rfl
  have p1 := g0 1 _ rfl
  clear g0
  by_cases ht : 60 < p.texts.length
  · have Hg := Lib.hid (great_t p ht)
    go_enter Tryz.func6, Tryz.ntmps6
    go_wp2_with fail
    generalize w.alloc (.cells #[.slice fa p.funs.length fc, .slice ta p.texts.length tc, .int .i64 p.main] 25) = W at *
    go_loop [3, 9] (fun n i => ∃ (k : Nat) (x : Int), k ≤ p.texts.length ∧ i = .int .i64 k ∧ n = .int .i64 x) (fun _ i => p.texts.length - (intOf i).toNat)
    case atStart => exact ⟨0, 0, Nat.zero_le _, rfl, rfl⟩
    case round =>
      obtain ⟨k, x, hk, rfl, rfl⟩ := hrel
      by_cases hkl : k < p.texts.length
      · obtain ⟨b, off, tc', fd, _, hbl, c0⟩ := texts_at Hp.out.2 k hkl
        obtain rfl := (Value.slice.inj fd).1
        have d0 := (hs0.cell (p := ⟨b, off + k, none⟩) hbl).trans c0
        clear c0 fd
        generalize p.texts.getD k default = s at *
        go_wp2_with fail
        go_round
        case rel => exact ⟨k + 1, _, by omega, by go_num, rfl⟩
        case measure => simp [intOf]; omega
      · by_cases hf : 60 < p.funs.length
        · go_wp2_with fail
          go_ret
          exact ⟨by rw [Hg.out]; rfl, hs0⟩
        · go_wp2_with fail
          go_ret
          exact ⟨by rw [Hg.out]; rfl, hs0⟩
  · go_enter Tryz.func6, Tryz.ntmps6
    go_wp2_with fail
    generalize w.alloc (.cells #[.slice fa p.funs.length fc, .slice ta p.texts.length tc, .int .i64 p.main] 25) = W at *
    go_loop [3, 9] (fun n i => ∃ (k : Nat), k ≤ p.texts.length ∧ i = .int .i64 k ∧ n = .int .i64 (sumTK p.texts k)) (fun _ i => p.texts.length - (intOf i).toNat)
    case atStart => exact ⟨0, Nat.zero_le _, rfl, rfl⟩
    case round =>
      obtain ⟨k, hk, rfl, rfl⟩ := hrel
      obtain ⟨s0, s1⟩ := sumTK_bound p.texts k
      by_cases hkl : k < p.texts.length
      · obtain ⟨b, off, tc', fd, _, hbl, c0⟩ := texts_at Hp.out.2 k hkl
        obtain rfl := (Value.slice.inj fd).1
        have d0 := (hs0.cell (p := ⟨b, off + k, none⟩) hbl).trans c0
        have hnx : Hid (sumTK p.texts (k + 1) = sumTK p.texts k + min ((p.texts.getD k default).size : Int) 20000) := rfl
        clear c0 fd
        generalize p.texts.getD k default = s at *
        generalize hx : sumTK p.texts k = x at *
        clear hx
        have hm0 : 0 ≤ min (s.size : Int) 20000 := by omega
        have hm1 : min (s.size : Int) 20000 ≤ 20000 := by omega
        have hx2 : x ≤ 1200000 := by omega
        go_wp2_with fail
        go_round
        case rel => exact ⟨k + 1, by omega, by go_num, by rw [hnx.out]⟩
        case measure => simp [intOf]; omega
      · obtain rfl : k = p.texts.length := by omega
        have Hs := Lib.hid (great_s p)
        have Hl := Lib.hid (fun h0 => great_l p h0 ht)
        have Hff := Lib.hid (great_f p)
        by_cases hf : 60 < p.funs.length
        · go_wp2_with fail
          go_ret
          exact ⟨by rw [Hff.out hf]; rfl, hs0⟩
        · generalize sumTK p.texts p.texts.length = x at *
          by_cases h17 : 17000 < x
          · go_wp2_with fail
            go_ret
            exact ⟨by rw [Hs.out h17]; rfl, hs0⟩
          · have Hl' := Lib.hid (Hl.out hf h17)
            have HC := Lib.hid (containsG_any _ p.funs W (Hp.out.1.below hs0) (by omega))
            go_wp2_with fail
            refine HC.out.mono ?_
            rintro e w' ⟨rfl, hb⟩
            go_wp2_with fail
            go_ret
            refine ⟨ret_bool (a := decide (60 < (p.funs.length : Int)) || decide (60 < (p.texts.length : Int)) || p.funs.any longB) ?_, hs0.trans (hb.mono hs0.size)⟩
            rw [Hl'.out, decide_eq_false (by omega), decide_eq_false (by omega)]; rfl
/-- What is not great. -/
theorem great_no (p : ProgD) (h : greatB p = false) : p.funs.length ≤ 60 ∧ p.texts.length ≤ 60 ∧ (∀ f ∈ p.funs, f.code.length ≤ 60) ∧ sumTK p.texts p.texts.length ≤ 17000 := by
  unfold greatB at h
  simp only [Bool.or_eq_false_iff, decide_eq_false_iff_not] at h
  obtain ⟨h0, h1, h2, h3⟩ := h
  refine ⟨by omega, by omega, fun f hf => ?_, by omega⟩
  have := List.any_eq_false.1 h3 f hf
  simp [longB] at this
  exact this

/-! The length of a code. -/
theorem sumTK_mono (l : List ByteArray) (j : Nat) : ∀ k, sumTK l j ≤ sumTK l (j + k)
  | 0 => Int.le_refl _
  | k + 1 => by
    have := sumTK_mono l j k
    have e : sumTK l (j + (k + 1)) = sumTK l (j + k) + capLen (l.getD (j + k) default) := rfl
    have : 0 ≤ capLen (l.getD (j + k) default) := by unfold capLen; omega
    omega
/-! A changed byte changes the sum. -/

theorem fun_cells {w : World} {q : Nat} {x y z u : Value} {t : TypeId} (h : w.heap[q]? = some (.cells #[x, y, z, u] t (0, 0))) : w.cell? ⟨q, 0, none⟩ = some x ∧ w.cell? ⟨q, 1, none⟩ = some y ∧ w.cell? ⟨q, 2, none⟩ = some z ∧ w.cell? ⟨q, 3, none⟩ = some u := by
  simp [World.cell?, h]


theorem wrap_ok (z : Int) (h0 : -9223372036854775808 ≤ z) (h1 : z ≤ 9223372036854775807) : IntKind.i64.wrap z = z := by rw [IntKind.wrap_i64]; omega
def zeroP : Value := .agg #[.slice none 0 0, .slice none 0 0, .int .i64 0]



theorem heap_set_same {w : World} {b i : Nat} {cs : Array Value} {T : TypeId} {fr : Nat × Nat} (hb : w.heap[b]? = some (.cells cs T fr)) (v : Value) : (w.setCell ⟨b, i, none⟩ v).heap[b]? = some (.cells (cs.setIfInBounds i v) T fr) := by
  simp [World.setCell, Array.getElem?_modify, hb]
end Go.Proofs.YtidffjlpldalpaaGreatDoor
