/- The example of law 47: what closure says of its function. -/
import Derived.Test.YtidolpcbbbakmaaDp4
namespace Go.Proofs.Ytidolpcbbbakmaa
open Go Go.RowKit

theorem binds_any (part : Int) (w : World) : Calls Try.prog 74 #[.int .i64 12, .int .i64 part] w fun e w' => e = .returned (.bool false) ∧ w = w' := by
  go_enter Try.func74, Try.ntmps74
  go_wp2_with fail
  go_ret
  exact ⟨rfl, rfl⟩
/-- An expression without parts. -/
def leafV (op n : Int) : Value := .agg #[.int .i64 op, .int .i64 n, .string ⟨#[]⟩, .slice none 0 0]
/-- The sum of a local variable and 1. -/
def nodeV (B : Nat) : Value := .agg #[.int .i64 12, .int .i64 1, .string ⟨#[]⟩, .slice (some ⟨B, 0, none⟩) 2 2]
def NodeAt (w : World) (B : Nat) : Prop := w.heap[B]? = some (.cells #[.int .i64 21, .int .i64 0, .string ⟨#[]⟩, .slice none 0 0, .int .i64 2, .int .i64 1, .string ⟨#[]⟩, .slice none 0 0] 36 (0, 0))
theorem NodeAt.below {w w' : World} {B : Nat} (h : NodeAt w B) (hb : Below w.heap.size w w') : NodeAt w' B := (hb.block B (heap_lt h)).trans h
theorem NodeAt.cells {w : World} {B : Nat} (h : NodeAt w B) : w.cell? ⟨B, 0, none⟩ = some (.int .i64 21) ∧ w.cell? ⟨B, 1, none⟩ = some (.int .i64 0) ∧ w.cell? ⟨B, 2, none⟩ = some (.string ⟨#[]⟩) ∧ w.cell? ⟨B, 3, none⟩ = some (.slice none 0 0) ∧ w.cell? ⟨B, 4, none⟩ = some (.int .i64 2) ∧ w.cell? ⟨B, 5, none⟩ = some (.int .i64 1) ∧ w.cell? ⟨B, 6, none⟩ = some (.string ⟨#[]⟩) ∧ w.cell? ⟨B, 7, none⟩ = some (.slice none 0 0) := by
  unfold NodeAt at h
  simp [World.cell?, h]
theorem box_cells {w : World} {q : Nat} {x y z u : Value} {t : TypeId} (h : w.heap[q]? = some (.cells #[x, y, z, u] t (0, 0))) : w.cell? ⟨q, 0, none⟩ = some x ∧ w.cell? ⟨q, 1, none⟩ = some y ∧ w.cell? ⟨q, 2, none⟩ = some z ∧ w.cell? ⟨q, 3, none⟩ = some u := fun_cells h
/-- The block of the parameter, and what was before. -/
theorem box_leaf (op n : Int) (w : World) : Below w.heap.size w (w.alloc (.cells #[.int .i64 op, .int .i64 n, .string ⟨#[]⟩, .slice none 0 0] 36)) := (Below.refl _ _).alloc (Nat.le_refl _) _
theorem box_node (B : Nat) (w : World) : Below w.heap.size w (w.alloc (.cells #[.int .i64 12, .int .i64 1, .string ⟨#[]⟩, .slice (some ⟨B, 0, none⟩) 2 2] 36)) := (Below.refl _ _).alloc (Nat.le_refl _) _
set_option maxRecDepth 100000 in
theorem measure_leaf (op n : Int) (w : World) : Calls Try.prog 76 #[leafV op n] w fun e w' => e = .returned (.tuple #[.int .i64 1, .int .i64 1]) ∧ Below w.heap.size w w' := by
  unfold leafV
  have hb := box_leaf op n w
  go_enter Try.func76, Try.ntmps76
  go_wp2_with fail
  go_loop [2, 3, 11] (fun x2 x3 x11 => x2 = .int .i64 0 ∧ x3 = .int .i64 0 ∧ x11 = .int .i64 0) (fun _ _ _ => 0)
  case atStart => exact ⟨rfl, rfl, rfl⟩
  case round =>
    obtain ⟨rfl, rfl, rfl⟩ := hrel
    go_wp2_with fail
    go_ret2
    exact ⟨rfl, hb⟩
set_option maxRecDepth 100000 in
theorem locals_leaf (op n k : Int) (w : World) : Calls Try.prog 56 #[leafV op n, .int .i64 k] w fun e w' => e = .returned (.int .i64 k) ∧ Below w.heap.size w w' := by
  unfold leafV
  have hb := box_leaf op n w
  go_enter Try.func56, Try.ntmps56
  go_wp2_with fail
  go_loop [5, 12] (fun x5 x12 => x5 = .int .i64 k ∧ x12 = .int .i64 0) (fun _ _ => 0)
  case atStart => exact ⟨rfl, rfl⟩
  case round =>
    obtain ⟨rfl, rfl⟩ := hrel
    go_wp2_with fail
    go_ret
    exact ⟨rfl, hb⟩
set_option maxHeartbeats 1000000 in
set_option maxRecDepth 100000 in
theorem measure_node (B : Nat) (w : World) (h : NodeAt w B) : Calls Try.prog 76 #[nodeV B] w fun e w' => e = .returned (.tuple #[.int .i64 3, .int .i64 2]) ∧ Below w.heap.size w w' := by
  unfold nodeV
  have hb := box_node B w
  have hN := h.below hb
  go_enter Try.func76, Try.ntmps76
  go_wp2_with fail
  generalize w.alloc (.cells #[.int .i64 12, .int .i64 1, .string ⟨#[]⟩, .slice (some ⟨B, 0, none⟩) 2 2] 36) = W at *
  clear h
  go_loopw [2, 3, 11] (fun a b i wr => (i = .int .i64 0 ∧ a = .int .i64 0 ∧ b = .int .i64 0 ∨ i = .int .i64 1 ∧ a = .int .i64 1 ∧ b = .int .i64 1 ∨ i = .int .i64 2 ∧ a = .int .i64 2 ∧ b = .int .i64 1) ∧ Below W.heap.size W wr) (fun _ _ i _ => 2 - (intOf i).toNat)
  case atStart => exact ⟨.inl ⟨rfl, rfl, rfl⟩, Below.refl _ _⟩
  case round =>
    obtain ⟨hrel, hbr⟩ := hrel
    have hN2 := hN.below hbr
    obtain ⟨c0, c1, c2, c3, c4, c5, c6, c7⟩ := hN2.cells
    rcases hrel with ⟨rfl, rfl, rfl⟩ | ⟨rfl, rfl, rfl⟩ | ⟨rfl, rfl, rfl⟩
    · go_wp2_with fail
      refine (measure_leaf _ _ _).mono ?_
      rintro e w2 ⟨rfl, hb2⟩
      have hb3 := hbr.trans (((Below.refl _ _).alloc (Nat.le_refl _) _ |>.trans (hb2.mono (by simp))).mono hbr.size)
      clear hb2 c0 c1 c2 c3 c4 c5 c6 c7 hN2
      go_wp2_with fail
      go_roundw
      case rel => exact ⟨.inr (.inl ⟨rfl, rfl, rfl⟩), hb3⟩
      case measure => simp [intOf]
    · go_wp2_with fail
      refine (measure_leaf _ _ _).mono ?_
      rintro e w2 ⟨rfl, hb2⟩
      have hb3 := hbr.trans (((Below.refl _ _).alloc (Nat.le_refl _) _ |>.trans (hb2.mono (by simp))).mono hbr.size)
      clear hb2 c0 c1 c2 c3 c4 c5 c6 c7 hN2
      go_wp2_with fail
      go_roundw
      case rel => exact ⟨.inr (.inr ⟨rfl, rfl, rfl⟩), hb3⟩
      case measure => simp [intOf]
    · have hbe := hb.trans (hbr.mono hb.size)
      go_wp2_with fail
      go_ret2
      exact ⟨rfl, hbe⟩
theorem large_node (B : Nat) (w : World) (h : NodeAt w B) : Calls Try.prog 63 #[nodeV B] w fun e w' => e = .returned (.bool false) ∧ Below w.heap.size w w' := by
  unfold nodeV
  have hb := box_node B w
  have hN := h.below hb
  have HM := Lib.hid (measure_node B _ hN)
  go_enter Try.func63, Try.ntmps63
  go_wp2_with fail
  refine HM.out.mono ?_
  rintro e w2 ⟨rfl, hb2⟩
  have hbe := hb.trans (hb2.mono hb.size)
  go_wp2_with fail
  go_ret
  exact ⟨rfl, hbe⟩
set_option maxHeartbeats 1000000 in
set_option maxRecDepth 100000 in
theorem locals_node (B : Nat) (w : World) (h : NodeAt w B) : Calls Try.prog 56 #[nodeV B, .int .i64 1] w fun e w' => e = .returned (.int .i64 1) ∧ Below w.heap.size w w' := by
  unfold nodeV
  have hb := box_node B w
  have hN := h.below hb
  have gP := new_heap w (.cells #[.int .i64 12, .int .i64 1, .string ⟨#[]⟩, .slice (some ⟨B, 0, none⟩) 2 2] 36)
  go_enter Try.func56, Try.ntmps56
  go_wp2_with fail
  generalize w.alloc (.cells #[.int .i64 12, .int .i64 1, .string ⟨#[]⟩, .slice (some ⟨B, 0, none⟩) 2 2] 36) = W at *
  clear h
  go_loopw [5, 12] (fun b i wr => (i = .int .i64 0 ∨ i = .int .i64 1 ∨ i = .int .i64 2) ∧ b = .int .i64 1 ∧ Below W.heap.size W wr) (fun _ i _ => 2 - (intOf i).toNat)
  case atStart => exact ⟨.inl rfl, rfl, Below.refl _ _⟩
  case round =>
    obtain ⟨hrel, rfl, hbr⟩ := hrel
    have hN2 := hN.below hbr
    obtain ⟨c0, c1, c2, c3, c4, c5, c6, c7⟩ := hN2.cells
    have gP2 := (hbr.block _ (heap_lt gP)).trans gP
    rcases hrel with rfl | rfl | rfl
    · have ga := grown_alloc wr (.cells #[.int .i64 21, .int .i64 0, .string ⟨#[]⟩, .slice none 0 0] 36)
      have gP3 := (ga.block _ (heap_lt gP2) (by nofun)).trans gP2
      have gL3 := new_heap wr (.cells #[.int .i64 21, .int .i64 0, .string ⟨#[]⟩, .slice none 0 0] 36)
      obtain ⟨p0, p1, p2, p3⟩ := box_cells gP3
      obtain ⟨l0, l1, l2, l3⟩ := box_cells gL3
      go_wp2_with fail
      refine (binds_any _ _).mono ?_
      rintro e w' ⟨rfl, rfl⟩
      go_wp2_with fail
      refine (locals_leaf _ _ _ _).mono ?_
      rintro e w2 ⟨rfl, hb2⟩
      have hb3 := hbr.trans (((Below.refl _ _).alloc (Nat.le_refl _) _ |>.trans (hb2.mono (by simp))).mono hbr.size)
      clear hb2 c0 c1 c2 c3 c4 c5 c6 c7 hN2 p0 p1 p2 p3 l0 l1 l2 l3
      go_wp2_with fail
      go_roundw
      case rel => exact ⟨.inr (.inl rfl), rfl, hb3⟩
      case measure => simp [intOf]
    · have ga := grown_alloc wr (.cells #[.int .i64 2, .int .i64 1, .string ⟨#[]⟩, .slice none 0 0] 36)
      have gP3 := (ga.block _ (heap_lt gP2) (by nofun)).trans gP2
      have gL3 := new_heap wr (.cells #[.int .i64 2, .int .i64 1, .string ⟨#[]⟩, .slice none 0 0] 36)
      obtain ⟨p0, p1, p2, p3⟩ := box_cells gP3
      obtain ⟨l0, l1, l2, l3⟩ := box_cells gL3
      go_wp2_with fail
      refine (binds_any _ _).mono ?_
      rintro e w' ⟨rfl, rfl⟩
      go_wp2_with fail
      refine (locals_leaf _ _ _ _).mono ?_
      rintro e w2 ⟨rfl, hb2⟩
      have hb3 := hbr.trans (((Below.refl _ _).alloc (Nat.le_refl _) _ |>.trans (hb2.mono (by simp))).mono hbr.size)
      clear hb2 c0 c1 c2 c3 c4 c5 c6 c7 hN2 p0 p1 p2 p3 l0 l1 l2 l3
      go_wp2_with fail
      go_roundw
      case rel => exact ⟨.inr (.inr rfl), rfl, hb3⟩
      case measure => simp [intOf]
    · have hbe := hb.trans (hbr.mono hb.size)
      go_wp2_with fail
      go_ret
      exact ⟨rfl, hbe⟩
end Go.Proofs.Ytidolpcbbbakmaa
