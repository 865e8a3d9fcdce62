/- Valid of flat functions, whole. -/
import Derived.Test.YtidolpcbbbakmaaCs7
namespace Go.Proofs.Ytidolpcbbbakmaa
open Go Go.RowKit

theorem vf_0 {fl : List FlatD} {main : Int} (h : inB (fl.length : Int) 1 4096 = false) : validF fl main = false := by unfold validF; rw [h]; rfl
theorem vf_1 {fl : List FlatD} {main : Int} (h : inB main 0 ((fl.length : Int) - 1) = false) : validF fl main = false := by unfold validF; rw [h]; simp
theorem vf_2 {fl : List FlatD} {main : Int} (h : ¬ (fl.getD main.toNat default).caps = 0) : validF fl main = false := by unfold validF; rw [decide_eq_false h]; simp
theorem vf_3 {fl : List FlatD} {main : Int} (h0 : inB (fl.length : Int) 1 4096 = true) (h1 : inB main 0 ((fl.length : Int) - 1) = true) (h2 : (fl.getD main.toNat default).caps = 0) : validF fl main = !(fl.any fun f => !funB (cloV fl) f) := by
  unfold validF; rw [h0, h1, decide_eq_true h2, all_of]; rfl
def ValidFOk (b : Bool) (w : World) (e : Ending) (w' : World) : Prop := e = .returned (.bool b) ∧ Below w.heap.size w w'
set_option maxHeartbeats 2000000 in
set_option maxRecDepth 100000 in
theorem validF_any (B : Nat) (fv : Value) (fl : List FlatD) (main : Int) (w : World) (hF : IsFlats B w fv fl) (hBw : B ≤ w.heap.size) (hs : ∀ f ∈ fl, sizeX f.body ≤ 600 ∧ heightX f.body ≤ 211) :
    Calls Try.prog 18 #[fv, .int .i64 main] w (ValidFOk (validF fl main) w) := by
  have hm' : fl.length ≤ 9223372036854775807 := by have := hF.2.1; unfold maxLen at this; omega
  have hw1 : IntKind.i64.wrap ((fl.length : Int) - 1) = (fl.length : Int) - 1 := wrap_ok _ (by omega) (by omega)
  have hg := grown_alloc w (.cells #[fv] 22)
  have gV := new_heap w (.cells #[fv] 22)
  have hJ : JV B w.heap.size fv fl (w.alloc (.cells #[fv] 22)) := ⟨gV, hF.under (grown_under hg hBw (by nofun)), hBw⟩
  have HC := Lib.hid (containsV_any B w.heap.size fv fl _ hJ (by have := hg.size; omega) hs)
  have HG := Lib.hid hg
  have HF := Lib.hid hJ.2.1
  obtain ⟨⟨a, c, rfl, hlc, _⟩, _⟩ := hF
  have q0 := (one_cell gV).1
  clear hJ hg gV hs
  obtain ⟨b0, hb0⟩ : ∃ bb, inB (fl.length : Int) 1 4096 = bb := ⟨_, rfl⟩
  have Hb0 := Lib.hid hb0
  obtain ⟨b1, hb1⟩ : ∃ bb, inB main 0 ((fl.length : Int) - 1) = bb := ⟨_, rfl⟩
  have Hb1 := Lib.hid hb1
  clear hb0 hb1
  cases b0
  · go_enter Try.func18, Try.ntmps18
    go_wp2_with fail
    refine (cwithin_any _ _ _ _).mono ?_
    rintro e w' ⟨rfl, rfl⟩
    rw [Hb0.out]
    go_wp2_with fail
    go_ret
    exact ⟨by rw [vf_0 Hb0.out]; rfl, grown_under HG.out (Nat.le_refl _) (by nofun)⟩
  · cases b1
    · go_enter Try.func18, Try.ntmps18
      go_wp2_with fail
      refine (cwithin_any _ _ _ _).mono ?_
      rintro e w' ⟨rfl, rfl⟩
      rw [Hb0.out]
      go_wp2_with fail
      refine (cwithin_any _ _ _ _).mono ?_
      rintro e w' ⟨rfl, rfl⟩
      rw [Hb1.out]
      go_wp2_with fail
      go_ret
      exact ⟨by rw [vf_1 Hb1.out]; rfl, grown_under HG.out (Nat.le_refl _) (by nofun)⟩
    · obtain ⟨m, rfl⟩ : ∃ m : Nat, main = m := ⟨main.toNat, by have := Hb1.out; unfold inB at this; simp at this; omega⟩
      have hml : m < fl.length := by have := Hb1.out; unfold inB at this; simp at this; omega
      obtain ⟨b, off, c', ha, _, _, c0, _⟩ := flats_at HF.out.1 m hml
      obtain rfl := (Value.slice.inj ha).1
      have H2 := Lib.hid (vf_2 (fl := fl) (main := (m : Int)))
      have H3 := Lib.hid (vf_3 (fl := fl) (main := (m : Int)) Hb0.out Hb1.out)
      rw [Int.toNat_natCast] at H2 H3
      clear ha
      generalize (fl.getD m default).caps = x at *
      by_cases hx : x = 0
      · subst hx
        have H3' := Lib.hid (H3.out rfl)
        go_enter Try.func18, Try.ntmps18
        go_wp2_with fail
        refine (cwithin_any _ _ _ _).mono ?_
        rintro e w' ⟨rfl, rfl⟩
        rw [Hb0.out]
        go_wp2_with fail
        refine (cwithin_any _ _ _ _).mono ?_
        rintro e w' ⟨rfl, rfl⟩
        rw [Hb1.out]
        go_wp2_with fail
        refine HC.out.mono ?_
        rintro e w2 ⟨rfl, hg2⟩
        have HR := Lib.hid (both HG.out hg2)
        clear hg2
        go_wp2_with fail
        go_ret
        exact ⟨by rw [H3'.out]; rfl, grown_under HR.out (Nat.le_refl _) (by nofun)⟩
      · have hx2 : (x == 0) = false := beq_eq_false_iff_ne.2 hx
        have H2' := Lib.hid (H2.out hx)
        go_enter Try.func18, Try.ntmps18
        go_wp2_with fail
        refine (cwithin_any _ _ _ _).mono ?_
        rintro e w' ⟨rfl, rfl⟩
        rw [Hb0.out]
        go_wp2_with fail
        refine (cwithin_any _ _ _ _).mono ?_
        rintro e w' ⟨rfl, rfl⟩
        rw [Hb1.out]
        go_wp2_with fail
        go_ret
        exact ⟨by rw [H2'.out]; rfl, grown_under HG.out (Nat.le_refl _) (by nofun)⟩
end Go.Proofs.Ytidolpcbbbakmaa
