/- right's look behind a switch. -/
import Derived.Test.YtidffjlpldalpaaGreatDoorT1
set_option linter.unusedVariables false
set_option linter.unusedSimpArgs false
namespace Go.Proofs.YtidffjlpldalpaaGreatDoor
open Go Go.RowKit

def noJump (i : Ins) : Bool := decide (i.op ≠ 14)
theorem right1_any (i : Ins) (w : World) : Calls Tryz.prog 60 #[.agg #[.int .i64 i.op, .int .i64 i.a, .int .i64 i.b]] w fun e w' => e = .returned (.bool (noJump i)) ∧ Below w.heap.size w w' := by
  obtain ⟨op, x, y⟩ := i
  obtain ⟨bb, hbb⟩ : ∃ bb, noJump ⟨op, x, y⟩ = bb := ⟨_, rfl⟩
  have Hbb := Lib.hid hbb
  have hb : decide (op ≠ 14) = bb := hbb
  clear hbb
  go_enter Tryz.func60, Tryz.ntmps60
  go_wp2_with fail
  go_ret
  refine ⟨?_, (Below.refl _ _).alloc (Nat.le_refl _) _⟩
  rw [Hbb.out, ← hb]; simp only [noJump, ne_eq, decide_not, Value.bool.injEq, Ending.returned.injEq]; by_cases h : op = 14 <;> simp [h, bne]

def AnyW (b : Bool) (w : World) (e : Ending) (w' : World) : Prop := ∃ r : Int, e = .returned (.int .i64 r) ∧ decide (0 ≤ r) = b ∧ Below w.heap.size w w'
set_option maxRecDepth 100000 in
theorem indexJ_any (v : Value) (l : List Ins) (w : World) (h : IsCode w v l) (hl : l.length ≤ 1000000) :
    Calls Tryz.prog 75 #[v, .func (.func 60) #[] #[]] w (AnyW (l.any noJump) w) := by
  have HT : Hid (∀ i w, Calls Tryz.prog 60 #[.agg #[.int .i64 i.op, .int .i64 i.a, .int .i64 i.b]] w fun e w' => e = .returned (.bool (noJump i)) ∧ Below w.heap.size w w') := right1_any
  obtain ⟨a', c', rfl, hlc, hcell⟩ := h
  have hb0 := Below.refl w.heap.size w
  by_cases hne : l.length = 0
  · have hnil : l = [] := List.length_eq_zero_iff.1 hne
    subst hnil
    clear hcell
    go_enter Tryz.func75, Tryz.ntmps75
    go_wp2_with fail
    go_loop [8] (fun i => i = .int .i64 0) (fun i => 0)
    case atStart => rfl
    case round =>
      subst hrel
      go_wp2_with fail
      go_ret
      exact ⟨-1, rfl, rfl, hb0⟩
  · obtain ⟨b, off, rfl, hlt, hc⟩ := hcell (by omega)
    have Hc : Hid (∀ k, k < l.length → w.cell? ⟨b, off + k * 3, none⟩ = some (.int .i64 (l.getD k default).op) ∧ w.cell? ⟨b, off + k * 3 + 1, none⟩ = some (.int .i64 (l.getD k default).a) ∧ w.cell? ⟨b, off + k * 3 + 2, none⟩ = some (.int .i64 (l.getD k default).b)) := fun k hk => by
      obtain ⟨c0, c1, c2⟩ := insCells_at l k hk
      have hlen := insCells_length l
      refine ⟨?_, ?_, ?_⟩
      · rw [hc (k * 3) (by omega), c0]
      · rw [Nat.add_assoc, hc (k * 3 + 1) (by omega), c1]
      · rw [Nat.add_assoc, hc (k * 3 + 2) (by omega), c2]
    clear hcell hc
    go_enter Tryz.func75, Tryz.ntmps75
    go_wp2_with fail
    go_loopw [8] (fun i wr => (∃ k : Nat, k ≤ l.length ∧ i = .int .i64 k ∧ Hid ((l.take k).any noJump = false)) ∧ Below w.heap.size w wr) (fun i _ => l.length - (intOf i).toNat)
    case atStart => exact ⟨⟨0, Nat.zero_le _, rfl, rfl⟩, hb0⟩
    case round =>
      obtain ⟨⟨k, hk, rfl, hno⟩, hbr⟩ := hrel
      by_cases hkl : k < l.length
      · obtain ⟨c0, c1, c2⟩ := Hc.out k hkl
        have d0 : wr.cell? ⟨b, off + k * 3, none⟩ = _ := (hbr.cell (p := ⟨b, off + k * 3, none⟩) hlt).trans c0
        have d1 : wr.cell? ⟨b, off + k * 3 + 1, none⟩ = _ := (hbr.cell (p := ⟨b, off + k * 3 + 1, none⟩) hlt).trans c1
        have d2 : wr.cell? ⟨b, off + k * 3 + 2, none⟩ = _ := (hbr.cell (p := ⟨b, off + k * 3 + 2, none⟩) hlt).trans c2
        clear c0 c1 c2
        have Hn := Lib.hid (any_next default l noJump k hkl hno.out)
        have Hy := Lib.hid (any_hit default l noJump k hkl)
        generalize l.getD k default = x at *
        go_wp2_with fail
        refine (HT.out x _).mono ?_
        rintro e w' ⟨rfl, hb1⟩
        have hb2 : Below w.heap.size w w' := hbr.trans (hb1.mono hbr.size)
        obtain ⟨bb, hbb⟩ : ∃ bb, noJump x = bb := ⟨_, rfl⟩
        have Hbb := Lib.hid hbb
        rw [hbb]
        clear hbb
        cases bb
        · have hN : Hid ((l.take (k + 1)).any noJump = false) := Hn.out Hbb.out
          go_wp2_with fail
          go_round
          case rel => exact ⟨⟨k + 1, by omega, by go_num, hN⟩, hb2⟩
          case measure => simp [intOf]; omega
        · go_wp2_with fail
          go_ret
          exact ⟨k, rfl, by rw [Hy.out Hbb.out]; simp, hb2⟩
      · go_wp2_with fail
        go_ret
        refine ⟨-1, rfl, ?_, hbr⟩
        have := hno.out
        rw [List.take_of_length_le (by omega)] at this
        rw [this]; rfl
theorem containsJ_any (v : Value) (l : List Ins) (w : World) (h : IsCode w v l) (hl : l.length ≤ 1000000) :
    Calls Tryz.prog 59 #[v, .func (.func 60) #[] #[]] w fun e w' => e = .returned (.bool (l.any noJump)) ∧ Below w.heap.size w w' := by
  have H := Lib.hid (indexJ_any v l w h hl)
  go_enter Tryz.func59, Tryz.ntmps59
  go_wp2_with fail
  refine H.out.mono ?_
  rintro e w' ⟨r, rfl, hr, hb⟩
  have Hr := Lib.hid hr
  clear hr
  go_wp2_with fail
  go_ret
  exact ⟨ret_bool Hr.out, hb⟩
end Go.Proofs.YtidffjlpldalpaaGreatDoor
