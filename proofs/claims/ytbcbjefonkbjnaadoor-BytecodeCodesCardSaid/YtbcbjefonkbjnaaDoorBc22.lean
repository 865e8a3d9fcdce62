/- great of law 46. -/
import Derived.Test.YtbcbjefonkbjnaaDoorBc19
import Derived.Test.YtbcbjefonkbjnaaDoorBc21
namespace Go.Proofs.YtbcbjefonkbjnaaDoor
open Go Go.RowKit

def longB (f : FunD) : Bool := decide (60 < f.code.length)
theorem great1_any (f : FunD) (w : World) (h : ∃ a c, f.v = .slice a f.code.length c) : Calls Tryd.prog 29 #[.agg #[.int .i64 f.c, .int .i64 f.l, .int .i64 f.d, f.v]] w fun e w' => e = .returned (.bool (longB f)) ∧ Below w.heap.size w w' := by
  obtain ⟨c, l, d, v, code⟩ := f
  obtain ⟨a, cc, hv⟩ := h
  simp only at hv
  subst hv
  obtain ⟨bb, hbb⟩ : ∃ bb, longB ⟨c, l, d, .slice a code.length cc, code⟩ = bb := ⟨_, rfl⟩
  have Hbb := Lib.hid hbb
  have hb : decide (60 < code.length) = bb := hbb
  clear hbb
  go_enter Tryd.func29, Tryd.ntmps29
  go_wp2_with fail
  go_ret
  refine ⟨?_, (Below.refl _ _).alloc (Nat.le_refl _) _⟩
  rw [Hbb.out, ← hb]
  simp only [Ending.returned.injEq]
  first | rfl | (refine congrArg Value.bool (decide_eq_decide.2 ?_); omega)
set_option maxRecDepth 100000 in
theorem indexG_any (v : Value) (l : List FunD) (w : World) (h : IsFuns w v l) (hl : l.length ≤ 1000000) :
    Calls Tryd.prog 58 #[v, .func (.func 29) #[] #[]] w (AnyW (l.any longB) w) := by
  have HT : Hid (∀ k, k < l.length → ∀ w, Calls Tryd.prog 29 #[.agg #[.int .i64 (l.getD k default).c, .int .i64 (l.getD k default).l, .int .i64 (l.getD k default).d, (l.getD k default).v]] w fun e w' => e = .returned (.bool (longB (l.getD k default))) ∧ Below w.heap.size w w') := fun k hk w => great1_any _ w (by obtain ⟨a, c, hv, _⟩ := h.2 _ (getD_mem default l k hk); exact ⟨a, c, hv⟩)
  have Hf := Lib.hid h
  obtain ⟨⟨a', c', rfl, hlc, hcell⟩, _⟩ := h
  have hb0 := Below.refl w.heap.size w
  by_cases hne : l.length = 0
  · have hnil : l = [] := List.length_eq_zero_iff.1 hne
    subst hnil
    clear hcell
    go_enter Tryd.func58, Tryd.ntmps58
    go_wp2_with fail
    go_loop [8] (fun i => i = .int .i64 0) (fun i => 0)
    case atStart => rfl
    case round =>
      subst hrel
      go_wp2_with fail
      go_ret
      exact ⟨-1, rfl, rfl, hb0⟩
  · obtain ⟨b, off, rfl, hlt, _⟩ := hcell (by omega)
    have Hc : Hid (∀ k, k < l.length → w.cell? ⟨b, off + k * 4, none⟩ = some (.int .i64 (l.getD k default).c) ∧ w.cell? ⟨b, off + k * 4 + 1, none⟩ = some (.int .i64 (l.getD k default).l) ∧ w.cell? ⟨b, off + k * 4 + 2, none⟩ = some (.int .i64 (l.getD k default).d) ∧ w.cell? ⟨b, off + k * 4 + 3, none⟩ = some (l.getD k default).v) := fun k hk => by
      obtain ⟨b', off', cx, e, _, _, h4⟩ := Hf.out.at' k hk
      obtain ⟨e1, _⟩ := Value.slice.inj e
      cases e1
      exact h4
    clear hcell
    go_enter Tryd.func58, Tryd.ntmps58
    go_wp2_with fail
    go_loopw [8] (fun i wr => (∃ k : Nat, k ≤ l.length ∧ i = .int .i64 k ∧ Hid ((l.take k).any longB = false)) ∧ Below w.heap.size w wr) (fun i _ => l.length - (intOf i).toNat)
    case atStart => exact ⟨⟨0, Nat.zero_le _, rfl, rfl⟩, hb0⟩
    case round =>
      obtain ⟨⟨k, hk, rfl, hno⟩, hbr⟩ := hrel
      by_cases hkl : k < l.length
      · obtain ⟨c0, c1, c2, c3⟩ := Hc.out k hkl
        have d0 := (hbr.cell (p := ⟨b, off + k * 4, none⟩) hlt).trans c0
        have d1 := (hbr.cell (p := ⟨b, off + k * 4 + 1, none⟩) hlt).trans c1
        have d2 := (hbr.cell (p := ⟨b, off + k * 4 + 2, none⟩) hlt).trans c2
        have d3 := (hbr.cell (p := ⟨b, off + k * 4 + 3, none⟩) hlt).trans c3
        clear c0 c1 c2 c3
        have Hn := Lib.hid (any_next default l longB k hkl hno.out)
        have Hy := Lib.hid (any_hit default l longB k hkl)
        have HT' := Lib.hid (HT.out k hkl)
        generalize l.getD k default = x at *
        go_wp2_with fail
        refine (HT'.out _).mono ?_
        rintro e w' ⟨rfl, hb1⟩
        have hb2 : Below w.heap.size w w' := hbr.trans (hb1.mono hbr.size)
        obtain ⟨bb, hbb⟩ : ∃ bb, longB x = bb := ⟨_, rfl⟩
        have Hbb := Lib.hid hbb
        rw [hbb]
        clear hbb
        cases bb
        · have hN : Hid ((l.take (k + 1)).any longB = false) := Hn.out Hbb.out
          go_wp2_with fail
          go_round
          case rel => exact ⟨⟨k + 1, by omega, by go_num, hN⟩, hb2⟩
          case measure => simp [intOf]; omega
        · go_wp2_with fail
          go_ret
          exact ⟨k, rfl, by rw [Hy.out Hbb.out]; simp, hb2⟩
      · go_wp2_with fail
        go_ret
        refine ⟨-1, rfl, ?_, hbr⟩
        have := hno.out
        rw [List.take_of_length_le (by omega)] at this
        rw [this]; rfl
theorem containsG_any (v : Value) (l : List FunD) (w : World) (h : IsFuns w v l) (hl : l.length ≤ 1000000) :
    Calls Tryd.prog 28 #[v, .func (.func 29) #[] #[]] w fun e w' => e = .returned (.bool (l.any longB)) ∧ Below w.heap.size w w' := by
  have H := Lib.hid (indexG_any v l w h hl)
  clear h
  go_enter Tryd.func28, Tryd.ntmps28
  go_wp2_with fail
  refine H.out.mono ?_
  rintro e w' ⟨r, rfl, hr, hb⟩
  have Hr := Lib.hid hr
  clear hr
  go_wp2_with fail
  go_ret
  exact ⟨ret_bool Hr.out, hb⟩
end Go.Proofs.YtbcbjefonkbjnaaDoor
