/- IdentPaths: its walk. -/
import Derived.Test.YtbjjimfdbbhjgaaDoorPth
namespace Go.Proofs.YtbjjimfdbbhjgaaDoor
open Go Go.RowKit

theorem paths_true_true (s : ByteArray) (v : Value) (l : List ByteArray) (w : World) (h : IsStrs w v l) (hE : Env w) (h1 : s.size ≤ 1000) (Hlong : Hid (longB l = false)) (h50 : l.length ≤ 1000000) (hsz : Hid (∀ x ∈ l, x.size ≤ 1000))
    (Eb : Hid (pathB (splL s) = true)) (Ep : Hid (ppL s = splL s)) (Ee : Hid (ppE s = 0)) (Ec : Hid (pathB l = true)) (Et : Hid (ptS l = joinD l)) (En : Hid (ptE l = 0)) :
    Calls Tryd.prog 7 #[.string s, v] w fun e w' => e = .returned (.bool true) ∧ Below w.heap.size w w' := by
  have hle : (splL s).length ≤ 1000000 := by have := splL_le s; omega
  go_enter Tryd.func7, Tryd.ntmps7
  go_wp2_with fail
  refine (awake_any _ hE).mono ?_
  rintro e w1 ⟨rfl, hb1⟩
  have hE1 := hE.below hb1
  have Hv1 := Lib.hid (h.below hb1)
  clear h
  go_wp2_with fail
  refine (long_any _ l _ Hv1.out).mono ?_
  rintro e w2 ⟨rfl, rfl⟩
  rw [Hlong.out]
  go_wp2_with fail
  refine (parsePath_any _ _ hE1 h1).mono ?_
  rintro e w2 ⟨p, rfl, hp, hb2⟩
  rw [Ee.out]
  rw [Ep.out] at hp
  have Hp2 := Lib.hid hp
  clear hp
  have hB2 : Below w.heap.size w w2 := hb1.trans (hb2.mono hb1.size)
  have hE2 := hE1.below hb2
  have Hv2 := Lib.hid (Hv1.out.below hb2)
  clear hb1 hb2 hE1 Hv1
  go_wp2_with fail
  refine (pathText_any _ l _ Hv2.out hE2 hsz.out h50).mono ?_
  rintro e w3 ⟨rfl, hb3⟩
  rw [Et.out, En.out]
  unfold st
  have hB3 : Below w.heap.size w w3 := hB2.trans (hb3.mono hB2.size)
  have Hv3 := Lib.hid (Hv2.out.below hb3)
  have Hp3 := Lib.hid (Hp2.out.below hb3)
  clear hB2 hb3 hE2 Hv2 Hp2
  go_wp2_with fail
  refine (rParsePath_any _ _ h1).mono ?_
  rintro e w4 ⟨q, rfl, hq, hb4⟩
  rw [Eb.out]
  rw [Ep.out] at hq
  have Hq4 := Lib.hid hq
  clear hq
  have hB4 : Below w.heap.size w w4 := hB3.trans (hb4.mono hB3.size)
  have Hv4 := Lib.hid (Hv3.out.below hb4)
  have Hp4 := Lib.hid (Hp3.out.below hb4)
  clear hB3 hb4 Hv3 Hp3
  go_wp2_with fail
  refine (equal_any _ _ _ _ _ Hp4.out Hq4.out hle hle).mono ?_
  rintro e w5 ⟨rfl, hb5⟩
  have hB5 : Below w.heap.size w w5 := hB4.trans (hb5.mono hB4.size)
  have Hv5 := Lib.hid (Hv4.out.below hb5)
  clear hB4 hb5 Hv4
  simp only [decide_true]
  go_wp2_with fail
  refine (rIsPath_any _ l _ Hv5.out hsz.out h50).mono ?_
  rintro e w6 ⟨rfl, hb6⟩
  rw [Ec.out]
  have hB6 : Below w.heap.size w w6 := hB5.trans (hb6.mono hB5.size)
  have Hv6 := Lib.hid (Hv5.out.below hb6)
  clear hB5 hb6 Hv5
  go_wp2_with fail
  refine (rPathText_any _ l _ Hv6.out Ec.out).mono ?_
  rintro e w7 ⟨rfl, rfl⟩
  unfold st
  go_wp2_with fail
  go_ret
  exact ⟨by simp, hB6⟩
theorem paths_true_false (s : ByteArray) (v : Value) (l : List ByteArray) (w : World) (h : IsStrs w v l) (hE : Env w) (h1 : s.size ≤ 1000) (Hlong : Hid (longB l = false)) (h50 : l.length ≤ 1000000) (hsz : Hid (∀ x ∈ l, x.size ≤ 1000))
    (Eb : Hid (pathB (splL s) = true)) (Ep : Hid (ppL s = splL s)) (Ee : Hid (ppE s = 0)) (Ec : Hid (pathB l = false)) (Et : Hid (ptS l = [])) (En : Hid (ptE l = 1)) :
    Calls Tryd.prog 7 #[.string s, v] w fun e w' => e = .returned (.bool true) ∧ Below w.heap.size w w' := by
  have hle : (splL s).length ≤ 1000000 := by have := splL_le s; omega
  go_enter Tryd.func7, Tryd.ntmps7
  go_wp2_with fail
  refine (awake_any _ hE).mono ?_
  rintro e w1 ⟨rfl, hb1⟩
  have hE1 := hE.below hb1
  have Hv1 := Lib.hid (h.below hb1)
  clear h
  go_wp2_with fail
  refine (long_any _ l _ Hv1.out).mono ?_
  rintro e w2 ⟨rfl, rfl⟩
  rw [Hlong.out]
  go_wp2_with fail
  refine (parsePath_any _ _ hE1 h1).mono ?_
  rintro e w2 ⟨p, rfl, hp, hb2⟩
  rw [Ee.out]
  rw [Ep.out] at hp
  have Hp2 := Lib.hid hp
  clear hp
  have hB2 : Below w.heap.size w w2 := hb1.trans (hb2.mono hb1.size)
  have hE2 := hE1.below hb2
  have Hv2 := Lib.hid (Hv1.out.below hb2)
  clear hb1 hb2 hE1 Hv1
  go_wp2_with fail
  refine (pathText_any _ l _ Hv2.out hE2 hsz.out h50).mono ?_
  rintro e w3 ⟨rfl, hb3⟩
  rw [Et.out, En.out]
  unfold st
  have hB3 : Below w.heap.size w w3 := hB2.trans (hb3.mono hB2.size)
  have Hv3 := Lib.hid (Hv2.out.below hb3)
  have Hp3 := Lib.hid (Hp2.out.below hb3)
  clear hB2 hb3 hE2 Hv2 Hp2
  go_wp2_with fail
  refine (rParsePath_any _ _ h1).mono ?_
  rintro e w4 ⟨q, rfl, hq, hb4⟩
  rw [Eb.out]
  rw [Ep.out] at hq
  have Hq4 := Lib.hid hq
  clear hq
  have hB4 : Below w.heap.size w w4 := hB3.trans (hb4.mono hB3.size)
  have Hv4 := Lib.hid (Hv3.out.below hb4)
  have Hp4 := Lib.hid (Hp3.out.below hb4)
  clear hB3 hb4 Hv3 Hp3
  go_wp2_with fail
  refine (equal_any _ _ _ _ _ Hp4.out Hq4.out hle hle).mono ?_
  rintro e w5 ⟨rfl, hb5⟩
  have hB5 : Below w.heap.size w w5 := hB4.trans (hb5.mono hB4.size)
  have Hv5 := Lib.hid (Hv4.out.below hb5)
  clear hB4 hb5 Hv4
  simp only [decide_true]
  go_wp2_with fail
  refine (rIsPath_any _ l _ Hv5.out hsz.out h50).mono ?_
  rintro e w6 ⟨rfl, hb6⟩
  rw [Ec.out]
  have hB6 : Below w.heap.size w w6 := hB5.trans (hb6.mono hB5.size)
  have Hv6 := Lib.hid (Hv5.out.below hb6)
  clear hB5 hb6 Hv5
  go_wp2_with fail
  go_ret
  exact ⟨by simp, hB6⟩
theorem paths_false_true (s : ByteArray) (v : Value) (l : List ByteArray) (w : World) (h : IsStrs w v l) (hE : Env w) (h1 : s.size ≤ 1000) (Hlong : Hid (longB l = false)) (h50 : l.length ≤ 1000000) (hsz : Hid (∀ x ∈ l, x.size ≤ 1000))
    (Eb : Hid (pathB (splL s) = false)) (Ep : Hid (ppL s = [])) (Ee : Hid (ppE s = 3)) (Ec : Hid (pathB l = true)) (Et : Hid (ptS l = joinD l)) (En : Hid (ptE l = 0)) :
    Calls Tryd.prog 7 #[.string s, v] w fun e w' => e = .returned (.bool true) ∧ Below w.heap.size w w' := by
  have hle : (splL s).length ≤ 1000000 := by have := splL_le s; omega
  go_enter Tryd.func7, Tryd.ntmps7
  go_wp2_with fail
  refine (awake_any _ hE).mono ?_
  rintro e w1 ⟨rfl, hb1⟩
  have hE1 := hE.below hb1
  have Hv1 := Lib.hid (h.below hb1)
  clear h
  go_wp2_with fail
  refine (long_any _ l _ Hv1.out).mono ?_
  rintro e w2 ⟨rfl, rfl⟩
  rw [Hlong.out]
  go_wp2_with fail
  refine (parsePath_any _ _ hE1 h1).mono ?_
  rintro e w2 ⟨p, rfl, hp, hb2⟩
  rw [Ee.out]
  rw [Ep.out] at hp
  have Hp2 := Lib.hid hp
  clear hp
  have hB2 : Below w.heap.size w w2 := hb1.trans (hb2.mono hb1.size)
  have hE2 := hE1.below hb2
  have Hv2 := Lib.hid (Hv1.out.below hb2)
  clear hb1 hb2 hE1 Hv1
  go_wp2_with fail
  refine (pathText_any _ l _ Hv2.out hE2 hsz.out h50).mono ?_
  rintro e w3 ⟨rfl, hb3⟩
  rw [Et.out, En.out]
  unfold st
  have hB3 : Below w.heap.size w w3 := hB2.trans (hb3.mono hB2.size)
  have Hv3 := Lib.hid (Hv2.out.below hb3)
  have Hp3 := Lib.hid (Hp2.out.below hb3)
  clear hB2 hb3 hE2 Hv2 Hp2
  go_wp2_with fail
  refine (rParsePath_any _ _ h1).mono ?_
  rintro e w4 ⟨q, rfl, hq, hb4⟩
  rw [Eb.out]
  rw [Ep.out] at hq
  have Hq4 := Lib.hid hq
  clear hq
  have hB4 : Below w.heap.size w w4 := hB3.trans (hb4.mono hB3.size)
  have Hv4 := Lib.hid (Hv3.out.below hb4)
  have Hp4 := Lib.hid (Hp3.out.below hb4)
  clear hB3 hb4 Hv3 Hp3
  obtain ⟨pa, pc, rfl, _, _⟩ := Hp4.out
  simp only [List.length_nil]
  have hB5 := hB4
  have Hv5 := Hv4
  clear hB4 Hv4
  go_wp2_with fail
  refine (rIsPath_any _ l _ Hv5.out hsz.out h50).mono ?_
  rintro e w6 ⟨rfl, hb6⟩
  rw [Ec.out]
  have hB6 : Below w.heap.size w w6 := hB5.trans (hb6.mono hB5.size)
  have Hv6 := Lib.hid (Hv5.out.below hb6)
  clear hB5 hb6 Hv5
  go_wp2_with fail
  refine (rPathText_any _ l _ Hv6.out Ec.out).mono ?_
  rintro e w7 ⟨rfl, rfl⟩
  unfold st
  go_wp2_with fail
  go_ret
  exact ⟨by simp, hB6⟩
theorem paths_false_false (s : ByteArray) (v : Value) (l : List ByteArray) (w : World) (h : IsStrs w v l) (hE : Env w) (h1 : s.size ≤ 1000) (Hlong : Hid (longB l = false)) (h50 : l.length ≤ 1000000) (hsz : Hid (∀ x ∈ l, x.size ≤ 1000))
    (Eb : Hid (pathB (splL s) = false)) (Ep : Hid (ppL s = [])) (Ee : Hid (ppE s = 3)) (Ec : Hid (pathB l = false)) (Et : Hid (ptS l = [])) (En : Hid (ptE l = 1)) :
    Calls Tryd.prog 7 #[.string s, v] w fun e w' => e = .returned (.bool true) ∧ Below w.heap.size w w' := by
  have hle : (splL s).length ≤ 1000000 := by have := splL_le s; omega
  go_enter Tryd.func7, Tryd.ntmps7
  go_wp2_with fail
  refine (awake_any _ hE).mono ?_
  rintro e w1 ⟨rfl, hb1⟩
  have hE1 := hE.below hb1
  have Hv1 := Lib.hid (h.below hb1)
  clear h
  go_wp2_with fail
  refine (long_any _ l _ Hv1.out).mono ?_
  rintro e w2 ⟨rfl, rfl⟩
  rw [Hlong.out]
  go_wp2_with fail
  refine (parsePath_any _ _ hE1 h1).mono ?_
  rintro e w2 ⟨p, rfl, hp, hb2⟩
  rw [Ee.out]
  rw [Ep.out] at hp
  have Hp2 := Lib.hid hp
  clear hp
  have hB2 : Below w.heap.size w w2 := hb1.trans (hb2.mono hb1.size)
  have hE2 := hE1.below hb2
  have Hv2 := Lib.hid (Hv1.out.below hb2)
  clear hb1 hb2 hE1 Hv1
  go_wp2_with fail
  refine (pathText_any _ l _ Hv2.out hE2 hsz.out h50).mono ?_
  rintro e w3 ⟨rfl, hb3⟩
  rw [Et.out, En.out]
  unfold st
  have hB3 : Below w.heap.size w w3 := hB2.trans (hb3.mono hB2.size)
  have Hv3 := Lib.hid (Hv2.out.below hb3)
  have Hp3 := Lib.hid (Hp2.out.below hb3)
  clear hB2 hb3 hE2 Hv2 Hp2
  go_wp2_with fail
  refine (rParsePath_any _ _ h1).mono ?_
  rintro e w4 ⟨q, rfl, hq, hb4⟩
  rw [Eb.out]
  rw [Ep.out] at hq
  have Hq4 := Lib.hid hq
  clear hq
  have hB4 : Below w.heap.size w w4 := hB3.trans (hb4.mono hB3.size)
  have Hv4 := Lib.hid (Hv3.out.below hb4)
  have Hp4 := Lib.hid (Hp3.out.below hb4)
  clear hB3 hb4 Hv3 Hp3
  obtain ⟨pa, pc, rfl, _, _⟩ := Hp4.out
  simp only [List.length_nil]
  have hB5 := hB4
  have Hv5 := Hv4
  clear hB4 Hv4
  go_wp2_with fail
  refine (rIsPath_any _ l _ Hv5.out hsz.out h50).mono ?_
  rintro e w6 ⟨rfl, hb6⟩
  rw [Ec.out]
  have hB6 : Below w.heap.size w w6 := hB5.trans (hb6.mono hB5.size)
  have Hv6 := Lib.hid (Hv5.out.below hb6)
  clear hB5 hb6 Hv5
  go_wp2_with fail
  go_ret
  exact ⟨by simp, hB6⟩

theorem long_small (l : List ByteArray) (h : longB l = false) : l.length ≤ 50 ∧ ∀ x ∈ l, x.size ≤ 300 := by
  unfold longB at h
  simp only [Bool.or_eq_false_iff, decide_eq_false_iff_not, List.any_eq_false] at h
  refine ⟨by omega, fun x hx => ?_⟩
  have := h.2 x hx
  unfold tooB at this
  simp at this; omega

theorem identPaths_walk (s : ByteArray) (v : Value) (l : List ByteArray) (w : World) (h : IsStrs w v l) (hE : Env w) :
    Calls Tryd.prog 7 #[.string s, v] w fun e w' => e = .returned (.bool true) ∧ Below w.heap.size w w' := by
  by_cases h1 : s.size ≤ 1000
  · cases hl : longB l
    · obtain ⟨h50, hsz⟩ := long_small l hl
      have hsz2 : ∀ x ∈ l, x.size ≤ 1000 := fun x hx => by have := hsz x hx; omega
      cases hb : pathB (splL s) <;> cases hc : pathB l
      · exact paths_false_false s v l w h hE h1 hl (by omega) hsz2 hb (by show ppL s = _; unfold ppL; rw [hb]; rfl) (by show ppE s = _; unfold ppE; rw [hb]; rfl) hc (by show ptS l = _; unfold ptS; rw [hc]; rfl) (by show ptE l = _; unfold ptE; rw [hc]; rfl)
      · exact paths_false_true s v l w h hE h1 hl (by omega) hsz2 hb (by show ppL s = _; unfold ppL; rw [hb]; rfl) (by show ppE s = _; unfold ppE; rw [hb]; rfl) hc (by show ptS l = _; unfold ptS; rw [hc]; rfl) (by show ptE l = _; unfold ptE; rw [hc]; rfl)
      · exact paths_true_false s v l w h hE h1 hl (by omega) hsz2 hb (by show ppL s = _; unfold ppL; rw [hb]; rfl) (by show ppE s = _; unfold ppE; rw [hb]; rfl) hc (by show ptS l = _; unfold ptS; rw [hc]; rfl) (by show ptE l = _; unfold ptE; rw [hc]; rfl)
      · exact paths_true_true s v l w h hE h1 hl (by omega) hsz2 hb (by show ppL s = _; unfold ppL; rw [hb]; rfl) (by show ppE s = _; unfold ppE; rw [hb]; rfl) hc (by show ptS l = _; unfold ptS; rw [hc]; rfl) (by show ptE l = _; unfold ptE; rw [hc]; rfl)
    · have Hl := Lib.hid hl
      clear hl
      go_enter Tryd.func7, Tryd.ntmps7
      go_wp2_with fail
      refine (awake_any _ hE).mono ?_
      rintro e w1 ⟨rfl, hb1⟩
      have hE1 := hE.below hb1
      go_wp2_with fail
      refine (long_any _ l _ (h.below hb1)).mono ?_
      rintro e w2 ⟨rfl, rfl⟩
      rw [Hl.out]
      go_wp2_with fail
      refine (awake_any _ hE1).mono ?_
      rintro e w2 ⟨rfl, hb2⟩
      have hB2 : Below w.heap.size w w2 := hb1.trans (hb2.mono hb1.size)
      go_wp2_with fail
      go_ret
      exact ⟨rfl, hB2⟩
  · go_enter Tryd.func7, Tryd.ntmps7
    go_wp2_with fail
    refine (awake_any _ hE).mono ?_
    rintro e w1 ⟨rfl, hb1⟩
    have hE1 := hE.below hb1
    go_wp2_with fail
    refine (awake_any _ hE1).mono ?_
    rintro e w2 ⟨rfl, hb2⟩
    have hB2 : Below w.heap.size w w2 := hb1.trans (hb2.mono hb1.size)
    go_wp2_with fail
    go_ret
    exact ⟨rfl, hB2⟩
end Go.Proofs.YtbjjimfdbbhjgaaDoor
