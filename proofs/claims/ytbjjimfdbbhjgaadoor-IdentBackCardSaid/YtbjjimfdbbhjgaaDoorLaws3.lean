/- Ascending and its reference, long, IndexFunc and ContainsFunc at strings, Index: the walk of IdentLists. -/
import Derived.Test.YtbjjimfdbbhjgaaDoorLaws1
import Derived.SliceStrings
import Derived.Lib.LaidU8
import Derived.ProofKit
import Derived.OpenShut
namespace Go.Proofs.YtbjjimfdbbhjgaaDoor
open Go Go.RowKit

theorem any_next (l : List ByteArray) (p : ByteArray → Bool) (k : Nat) (h : k < l.length) (hn : (l.take k).any p = false) (hf : p (l.getD k ByteArray.empty) = false) : (l.take (k + 1)).any p = false := by
  rw [List.take_succ_eq_append_getElem h, List.any_append, hn]
  simp [List.getD, h] at hf
  simp [hf]
theorem any_hit (l : List ByteArray) (p : ByteArray → Bool) (k : Nat) (h : k < l.length) (hp : p (l.getD k ByteArray.empty) = true) : l.any p = true := by
  rw [List.any_eq_true]
  exact ⟨l.getD k ByteArray.empty, by simp [List.getD, h], hp⟩
def ascP (l : List ByteArray) (i : Nat) : Bool := Op.bytesLess (l.getD i ByteArray.empty).toList (l.getD (i + 1) ByteArray.empty).toList
def ascB (l : List ByteArray) : Bool := (List.range (l.length - 1)).all (ascP l)
theorem ascB_false (l : List ByteArray) (k : Nat) (hk : k < l.length - 1) (h : ascP l k = false) : ascB l = false := by
  unfold ascB
  rw [List.all_eq_false]
  exact ⟨k, List.mem_range.2 hk, by rw [h]; simp⟩
theorem asc_next (l : List ByteArray) (k : Nat) (h : (List.range k).all (ascP l) = true) (hk : ascP l k = true) : (List.range (k + 1)).all (ascP l) = true := by
  rw [List.range_succ, List.all_append, h]; simp [hk]


theorem asc_any (v : Value) (l : List ByteArray) (w : World) (h : IsStrs w v l) (hl : l.length ≤ 1000000) :
    Calls Tryd.prog 25 #[v] w fun e w' => e = .returned (.bool (ascB l)) ∧ Below w.heap.size w w' := by
  obtain ⟨a, c, rfl, hlc, hcell⟩ := h
  by_cases hs : l.length ≤ 1
  · have hf : ascB l = true := by unfold ascB; rw [show l.length - 1 = 0 by omega]; rfl
    have Hf := Lib.hid hf
    clear hcell hf
    go_enter Tryd.func25, Tryd.ntmps25
    go_wp2
    go_loop [3] (fun i => i = .int .i64 1) (fun i => 0)
    case atStart => rfl
    case round =>
      subst hrel
      go_wp2
      go_ret
      exact ⟨ret_bool Hf.out.symm, Below.refl _ _⟩
  · obtain ⟨b, off, rfl, hlt, hc⟩ := hcell (by intro h; rw [h] at hs; simp at hs)
    have Hc := Lib.hid hc
    clear hcell hc
    go_enter Tryd.func25, Tryd.ntmps25
    go_wp2
    go_loopw [3] (fun i wr => ∃ k : Nat, 1 ≤ k ∧ k ≤ l.length ∧ i = .int .i64 k ∧ Hid ((List.range (k - 1)).all (ascP l) = true) ∧ Below w.heap.size w wr) (fun i _ => l.length - (intOf i).toNat)
    case atStart => exact ⟨1, Nat.le_refl _, by omega, rfl, rfl, Below.refl _ _⟩
    case round =>
      obtain ⟨k, hk1, hk, rfl, hall, hbr⟩ := hrel
      by_cases hkl : k < l.length
      · have hc0 : wr.cell? ⟨b, off + (k - 1), none⟩ = some (.string (l.getD (k - 1) ByteArray.empty)) := by rw [hbr.cell (p := ⟨b, off + (k - 1), none⟩) hlt]; exact Hc.out (k - 1) (by omega)
        have hc1 : wr.cell? ⟨b, off + k, none⟩ = some (.string (l.getD k ByteArray.empty)) := by rw [hbr.cell (p := ⟨b, off + k, none⟩) hlt]; exact Hc.out k (by omega)
        have hP : ascP l (k - 1) = Op.bytesLess (l.getD (k - 1) ByteArray.empty).toList (l.getD k ByteArray.empty).toList := by unfold ascP; rw [show k - 1 + 1 = k by omega]
        have Hn := Lib.hid (asc_next l (k - 1) hall.out)
        have Hf := Lib.hid (ascB_false l (k - 1) (by omega))
        generalize l.getD (k - 1) ByteArray.empty = x at hc0 hP
        generalize l.getD k ByteArray.empty = y at hc1 hP
        have i0 : (0 : Int) ≤ (k : Int) - 1 := by omega
        have i1 : (k : Int) - 1 < (l.length : Int) := by omega
        have i2 : (k : Int) < (l.length : Int) := by omega
        have i3 : ((k : Int) - 1).toNat = k - 1 := by omega
        obtain ⟨bb, hbb⟩ : ∃ bb, Op.bytesLess x.toList y.toList = bb := ⟨_, rfl⟩
        have Hbb := Lib.hid (hP.trans hbb)
        clear hP
        cases bb
        · go_wp2_with fail
          go_quiet (fail)
          go_wp2_with fail
          go_ret
          exact ⟨ret_bool (Hf.out Hbb.out).symm, bdrewN hbr _⟩
        · have hnext : Hid ((List.range (k + 1 - 1)).all (ascP l) = true) := by
            show _ = _
            rw [show k + 1 - 1 = k - 1 + 1 by omega]; exact Hn.out Hbb.out
          go_wp2_with fail
          go_quiet (fail)
          go_wp2_with fail
          go_roundw
          case rel => exact ⟨k + 1, by omega, by omega, by go_num, hnext, bdrewN hbr _⟩
          case measure => simp [intOf]; omega
      · go_wp2
        go_ret
        refine ⟨ret_bool ?_, hbr⟩
        obtain rfl : k = l.length := by omega
        exact hall.out.symm

theorem rAsc_any (v : Value) (l : List ByteArray) (w : World) (h : IsStrs w v l) (hl : l.length ≤ 1000000) :
    Calls Tryd.prog 26 #[v] w fun e w' => e = .returned (.bool (ascB l)) ∧ Below w.heap.size w w' := by
  obtain ⟨a, c, rfl, hlc, hcell⟩ := h
  by_cases hs : l.length ≤ 1
  · have hf : ascB l = true := by unfold ascB; rw [show l.length - 1 = 0 by omega]; rfl
    have Hf := Lib.hid hf
    clear hcell hf
    go_enter Tryd.func26, Tryd.ntmps26
    go_wp2
    go_loop [3] (fun i => i = .int .i64 1) (fun i => 0)
    case atStart => rfl
    case round =>
      subst hrel
      go_wp2
      go_ret
      exact ⟨ret_bool Hf.out.symm, Below.refl _ _⟩
  · obtain ⟨b, off, rfl, hlt, hc⟩ := hcell (by intro h; rw [h] at hs; simp at hs)
    have Hc := Lib.hid hc
    clear hcell hc
    go_enter Tryd.func26, Tryd.ntmps26
    go_wp2
    go_loopw [3] (fun i wr => ∃ k : Nat, 1 ≤ k ∧ k ≤ l.length ∧ i = .int .i64 k ∧ Hid ((List.range (k - 1)).all (ascP l) = true) ∧ Below w.heap.size w wr) (fun i _ => l.length - (intOf i).toNat)
    case atStart => exact ⟨1, Nat.le_refl _, by omega, rfl, rfl, Below.refl _ _⟩
    case round =>
      obtain ⟨k, hk1, hk, rfl, hall, hbr⟩ := hrel
      by_cases hkl : k < l.length
      · have hc0 : wr.cell? ⟨b, off + (k - 1), none⟩ = some (.string (l.getD (k - 1) ByteArray.empty)) := by rw [hbr.cell (p := ⟨b, off + (k - 1), none⟩) hlt]; exact Hc.out (k - 1) (by omega)
        have hc1 : wr.cell? ⟨b, off + k, none⟩ = some (.string (l.getD k ByteArray.empty)) := by rw [hbr.cell (p := ⟨b, off + k, none⟩) hlt]; exact Hc.out k (by omega)
        have hP : ascP l (k - 1) = Op.bytesLess (l.getD (k - 1) ByteArray.empty).toList (l.getD k ByteArray.empty).toList := by unfold ascP; rw [show k - 1 + 1 = k by omega]
        have Hn := Lib.hid (asc_next l (k - 1) hall.out)
        have Hf := Lib.hid (ascB_false l (k - 1) (by omega))
        generalize l.getD (k - 1) ByteArray.empty = x at hc0 hP
        generalize l.getD k ByteArray.empty = y at hc1 hP
        have i0 : (0 : Int) ≤ (k : Int) - 1 := by omega
        have i1 : (k : Int) - 1 < (l.length : Int) := by omega
        have i2 : (k : Int) < (l.length : Int) := by omega
        have i3 : ((k : Int) - 1).toNat = k - 1 := by omega
        obtain ⟨bb, hbb⟩ : ∃ bb, Op.bytesLess x.toList y.toList = bb := ⟨_, rfl⟩
        have Hbb := Lib.hid (hP.trans hbb)
        clear hP
        cases bb
        · go_wp2_with fail
          go_quiet (fail)
          go_wp2_with fail
          go_ret
          exact ⟨ret_bool (Hf.out Hbb.out).symm, bdrewN hbr _⟩
        · have hnext : Hid ((List.range (k + 1 - 1)).all (ascP l) = true) := by
            show _ = _
            rw [show k + 1 - 1 = k - 1 + 1 by omega]; exact Hn.out Hbb.out
          go_wp2_with fail
          go_quiet (fail)
          go_wp2_with fail
          go_roundw
          case rel => exact ⟨k + 1, by omega, by omega, by go_num, hnext, bdrewN hbr _⟩
          case measure => simp [intOf]; omega
      · go_wp2
        go_ret
        refine ⟨ret_bool ?_, hbr⟩
        obtain rfl : k = l.length := by omega
        exact hall.out.symm

set_option maxRecDepth 100000 in
/-- A slice of strings that came in reads as a list. -/
theorem strs_open {H : Type} {enc : TypeId × Value → H} {W : World} {base : Nat} {v : Value} {d : DataW H} {p : List MemPlace}
    (hval : Value.okWide Tryd.prog W .any base 33 v) (h : DataW.Trod enc Tryd.prog W 0 (fun _ => true) true 33 v d p) : ∃ l : List ByteArray, IsStrs W v l ∧ ∀ x ∈ l, x.size ≤ maxLen := by
  obtain ⟨a0, len, cap, rfl⟩ := WideShapes.okWide_slice Tryd.underlying33 hval
  obtain ⟨fuel, hf⟩ := h
  have c1 : Tryd.prog.cellsOf 9 = 1 := by kernel_rfl
  rcases Go.ChangeShapes.open_strings Tryd.underlying33 Tryd.underlying9 c1 hf with ⟨hcs, _⟩ | ⟨a, len', cap', ss, hcs, _, hl, hm, hz, _, hcell, hws⟩
  · have hcs' : Value.slice a0 len cap = .slice none 0 0 := by simpa [Value.cells] using hcs
    rw [hcs']
    exact ⟨[], isStrs_nil W, fun _ h => by cases h⟩
  · have hcs' : Value.slice a0 len cap = .slice (some a) len' cap' := by simpa [Value.cells] using hcs
    rw [hcs']
    simp only [if_true] at hz
    have hlen : (ss.take len').length = len' := by rw [List.length_take]; omega
    refine ⟨ss.take len', ⟨some a, cap', by rw [hlen], by omega, fun _ => ?_⟩, fun x hx => hws x (List.mem_of_mem_take hx)⟩
    have h0 : 0 < len' := by
      rcases Nat.eq_zero_or_pos len' with e | e
      · rename_i hne; rw [e] at hne; simp at hne
      · exact e
    obtain ⟨b, off, sp⟩ := a
    have e0 := hcell 0 (by omega)
    obtain rfl : sp = none := Proofs.cell_spot (o := off + 0) (by simpa [Addr.add] using e0)
    have hc : ∀ j, j < len' → W.cell? ⟨b, off + j, none⟩ = some (.string (ss.getD j ByteArray.empty)) := fun j hj => by
      have := hcell j (by omega)
      by_cases hj0 : j = 0
      · subst hj0; simpa [Addr.add] using this
      · simpa [Addr.add, hj0] using this
    refine ⟨b, off, rfl, ?_, fun j hj => ?_⟩
    · rcases Nat.lt_or_ge b W.heap.size with h' | h'
      · exact h'
      · have := hc 0 h0
        simp [World.cell?, Array.getElem?_eq_none h'] at this
    · rw [hlen] at hj
      rw [Lib.getD_takeS _ _ _ hj]
      exact hc j hj

def tooB (s : ByteArray) : Bool := decide (300 < s.size)
theorem long1_any (s : ByteArray) (w : World) :
    Calls Tryd.prog 54 #[.string s] w fun e w' => e = .returned (.bool (tooB s)) ∧ w = w' := by
  go_enter Tryd.func54, Tryd.ntmps54
  go_wp2
  go_ret
  exact ⟨ret_bool (by unfold tooB; rw [Bool.eq_iff_iff, decide_eq_true_iff, decide_eq_true_iff]; omega), rfl⟩

def IdxOk (l : List ByteArray) (w : World) (e : Ending) (w' : World) : Prop := ∃ r : Int, e = .returned (.int .i64 r) ∧ decide (0 ≤ r) = l.any tooB ∧ w = w'
theorem indexLong_any (v : Value) (l : List ByteArray) (w : World) (h : IsStrs w v l) (hl : l.length ≤ 1000000) :
    Calls Tryd.prog 67 #[v, .func (.func 54) #[] #[]] w (IdxOk l w) := by
  obtain ⟨a, c, rfl, hlc, hcell⟩ := h
  by_cases hne : l = []
  · subst hne
    clear hcell
    go_enter Tryd.func67, Tryd.ntmps67
    go_wp2_with fail
    go_loop [8] (fun i => i = .int .i64 0) (fun i => 0)
    case atStart => rfl
    case round =>
      subst hrel
      go_wp2
      go_ret
      exact ⟨-1, rfl, rfl, rfl⟩
  · obtain ⟨b, off, rfl, hlt, hc⟩ := hcell hne
    have Hc := Lib.hid hc
    clear hcell hc
    go_enter Tryd.func67, Tryd.ntmps67
    go_wp2_with fail
    go_loop [8] (fun i => ∃ k : Nat, k ≤ l.length ∧ i = .int .i64 k ∧ Hid ((l.take k).any tooB = false)) (fun i => l.length - (intOf i).toNat)
    case atStart => exact ⟨0, Nat.zero_le _, rfl, rfl⟩
    case round =>
      obtain ⟨k, hk, rfl, hno⟩ := hrel
      by_cases hkl : k < l.length
      · have hc := Hc.out k hkl
        have Hn := Lib.hid (any_next l tooB k hkl hno.out)
        have Hy := Lib.hid (any_hit l tooB k hkl)
        generalize l.getD k ByteArray.empty = x at *
        go_wp2_with fail
        refine (long1_any _ _).mono ?_
        rintro e w' ⟨rfl, rfl⟩
        obtain ⟨bb, hbb⟩ : ∃ bb, tooB x = bb := ⟨_, rfl⟩
        have Hbb := Lib.hid hbb
        rw [hbb]
        clear hbb
        cases bb
        · have hN : Hid ((l.take (k + 1)).any tooB = false) := Hn.out Hbb.out
          go_wp2_with fail
          go_round
          case rel => exact ⟨k + 1, by omega, by go_num, hN⟩
          case measure => simp [intOf]; omega
        · go_wp2_with fail
          go_ret
          exact ⟨k, rfl, by rw [Hy.out Hbb.out]; simp, rfl⟩
      · go_wp2_with fail
        go_ret
        refine ⟨-1, rfl, ?_, rfl⟩
        have := hno.out
        rw [List.take_of_length_le (by omega)] at this
        rw [this]; rfl

theorem containsLong_any (v : Value) (l : List ByteArray) (w : World) (h : IsStrs w v l) (hl : l.length ≤ 1000000) :
    Calls Tryd.prog 53 #[v, .func (.func 54) #[] #[]] w fun e w' => e = .returned (.bool (l.any tooB)) ∧ w = w' := by
  go_enter Tryd.func53, Tryd.ntmps53
  go_wp2_with fail
  refine (indexLong_any _ _ _ h hl).mono ?_
  rintro e w' ⟨r, rfl, hr, rfl⟩
  have Hr := Lib.hid hr
  clear hr
  go_wp2_with fail
  go_ret
  exact ⟨ret_bool Hr.out, rfl⟩

def longB (l : List ByteArray) : Bool := decide (50 < l.length) || l.any tooB
theorem long_any (v : Value) (l : List ByteArray) (w : World) (h : IsStrs w v l) :
    Calls Tryd.prog 24 #[v] w fun e w' => e = .returned (.bool (longB l)) ∧ w = w' := by
  by_cases h50 : 50 < l.length
  · have hf : longB l = true := by unfold longB; simp [h50]
    have Hf := Lib.hid hf
    clear hf
    obtain ⟨a, c, rfl, hlc, hcell⟩ := h
    clear hcell
    go_enter Tryd.func24, Tryd.ntmps24
    go_wp2_with fail
    go_ret
    exact ⟨ret_bool (by rw [Hf.out]), rfl⟩
  · have H := Lib.hid (containsLong_any v l w h (by omega))
    obtain ⟨a, c, rfl, hlc, hcell⟩ := h
    clear hcell
    go_enter Tryd.func24, Tryd.ntmps24
    go_wp2_with fail
    refine H.out.mono ?_
    rintro e w' ⟨rfl, rfl⟩
    go_wp2_with fail
    go_ret
    exact ⟨ret_bool (by unfold longB; simp [h50]; intro h; omega), rfl⟩

theorem index_any (v : Value) (l : List ByteArray) (s : ByteArray) (w : World) (h : IsStrs w v l) (hl : l.length ≤ 1000000) :
    Calls Tryd.prog 28 #[v, .string s] w fun e w' => e = .returned (.int .i64 (findL l s)) ∧ w = w' := by
  obtain ⟨a, c, rfl, hlc, hcell⟩ := h
  by_cases hne : l = []
  · subst hne
    refine (Tryd.slices_Index_string_empty a c s w).mono ?_
    rintro e w' ⟨rfl, rfl⟩
    exact ⟨rfl, rfl⟩
  · obtain ⟨b, off, rfl, hlt, hc⟩ := hcell hne
    refine (Tryd.slices_Index_string b off l.length c l s w (Nat.le_refl _) (by omega) hc).mono ?_
    rintro e w' ⟨rfl, rfl⟩
    rw [List.take_length]
    exact ⟨rfl, rfl⟩

theorem identLists_walk (v : Value) (l : List ByteArray) (s : ByteArray) (w : World) (h : IsStrs w v l) (hE : Env w) :
    Calls Tryd.prog 5 #[v, .string s] w fun e w' => e = .returned (.bool true) ∧ Below w.heap.size w w' := by
  by_cases hl : longB l = true
  · have Hl := Lib.hid hl
    clear hl
    go_enter Tryd.func5, Tryd.ntmps5
    go_wp2_with fail
    refine (awake_any _ hE).mono ?_
    rintro e w1 ⟨rfl, hb1⟩
    have hE1 := hE.below hb1
    go_wp2_with fail
    refine (long_any _ l _ (h.below hb1)).mono ?_
    rintro e w2 ⟨rfl, rfl⟩
    rw [Hl.out]
    go_wp2_with fail
    refine (awake_any _ hE1).mono ?_
    rintro e w2 ⟨rfl, hb2⟩
    have hB2 : Below w.heap.size w w2 := hb1.trans (hb2.mono hb1.size)
    go_wp2_with fail
    go_ret
    exact ⟨rfl, hB2⟩
  · have hf : longB l = false := by simpa using hl
    have h50 : l.length ≤ 1000000 := by unfold longB at hf; simp at hf; omega
    have Hl := Lib.hid hf
    clear hl hf
    go_enter Tryd.func5, Tryd.ntmps5
    go_wp2_with fail
    refine (awake_any _ hE).mono ?_
    rintro e w1 ⟨rfl, hb1⟩
    have h1 := h.below hb1
    go_wp2_with fail
    refine (long_any _ l _ h1).mono ?_
    rintro e w2 ⟨rfl, rfl⟩
    rw [Hl.out]
    go_wp2_with fail
    refine (asc_any _ l _ h1 h50).mono ?_
    rintro e w2 ⟨rfl, hb2⟩
    have h2 := h1.below hb2
    have hB2 : Below w.heap.size w w2 := hb1.trans (hb2.mono hb1.size)
    go_wp2_with fail
    refine (rAsc_any _ l _ h2 h50).mono ?_
    rintro e w3 ⟨rfl, hb3⟩
    have h3 := h2.below hb3
    have hB3 : Below w.heap.size w w3 := hB2.trans (hb3.mono hB2.size)
    go_wp2_with fail
    refine (find_any _ l _ _ h3 h50).mono ?_
    rintro e w4 ⟨rfl, rfl⟩
    go_wp2_with fail
    refine (index_any _ l _ _ h3 h50).mono ?_
    rintro e w4 ⟨rfl, rfl⟩
    go_wp2_with fail
    go_ret
    exact ⟨by simp, hB3⟩
end Go.Proofs.YtbjjimfdbbhjgaaDoor
