/- The example of law 47: what closure says of its function. The example of law 47: the function is a valid one, with one local variable. The example of law 47: no texts. -/
import Derived.Test.YtidolpcbbbakmaaGreatM11
import Derived.Laws.AppendOwnNone
import Derived.Lib.SliceRun
namespace Go.Proofs.YtidolpcbbbakmaaGreat
open Go Go.RowKit

theorem binds_any (part : Int) (w : World) : Calls Tryz.prog 79 #[.int .i64 12, .int .i64 part] w fun e w' => e = .returned (.bool false) ∧ w = w' := by
  go_enter Tryz.func79, Tryz.ntmps79
  go_wp2_with fail
  go_ret
  exact ⟨rfl, rfl⟩
/-- An expression without parts. -/
def leafV (op n : Int) : Value := .agg #[.int .i64 op, .int .i64 n, .string ⟨#[]⟩, .slice none 0 0]
/-- The sum of a local variable and 1. -/
def nodeV (B : Nat) : Value := .agg #[.int .i64 12, .int .i64 1, .string ⟨#[]⟩, .slice (some ⟨B, 0, none⟩) 2 2]
def NodeAt (w : World) (B : Nat) : Prop := w.heap[B]? = some (.cells #[.int .i64 21, .int .i64 0, .string ⟨#[]⟩, .slice none 0 0, .int .i64 2, .int .i64 1, .string ⟨#[]⟩, .slice none 0 0] 29 (0, 0))
theorem NodeAt.below {w w' : World} {B : Nat} (h : NodeAt w B) (hb : Below w.heap.size w w') : NodeAt w' B := (hb.block B (heap_lt h)).trans h
theorem NodeAt.cells {w : World} {B : Nat} (h : NodeAt w B) : w.cell? ⟨B, 0, none⟩ = some (.int .i64 21) ∧ w.cell? ⟨B, 1, none⟩ = some (.int .i64 0) ∧ w.cell? ⟨B, 2, none⟩ = some (.string ⟨#[]⟩) ∧ w.cell? ⟨B, 3, none⟩ = some (.slice none 0 0) ∧ w.cell? ⟨B, 4, none⟩ = some (.int .i64 2) ∧ w.cell? ⟨B, 5, none⟩ = some (.int .i64 1) ∧ w.cell? ⟨B, 6, none⟩ = some (.string ⟨#[]⟩) ∧ w.cell? ⟨B, 7, none⟩ = some (.slice none 0 0) := by
  unfold NodeAt at h
  simp [World.cell?, h]
theorem box_cells {w : World} {q : Nat} {x y z u : Value} {t : TypeId} (h : w.heap[q]? = some (.cells #[x, y, z, u] t (0, 0))) : w.cell? ⟨q, 0, none⟩ = some x ∧ w.cell? ⟨q, 1, none⟩ = some y ∧ w.cell? ⟨q, 2, none⟩ = some z ∧ w.cell? ⟨q, 3, none⟩ = some u := fun_cells h
/-- The block of the parameter, and what was before. -/
theorem box_leaf (op n : Int) (w : World) : Below w.heap.size w (w.alloc (.cells #[.int .i64 op, .int .i64 n, .string ⟨#[]⟩, .slice none 0 0] 29)) := (Below.refl _ _).alloc (Nat.le_refl _) _
theorem box_node (B : Nat) (w : World) : Below w.heap.size w (w.alloc (.cells #[.int .i64 12, .int .i64 1, .string ⟨#[]⟩, .slice (some ⟨B, 0, none⟩) 2 2] 29)) := (Below.refl _ _).alloc (Nat.le_refl _) _
set_option maxRecDepth 100000 in
theorem measure_leaf (op n : Int) (w : World) : Calls Tryz.prog 86 #[leafV op n] w fun e w' => e = .returned (.tuple #[.int .i64 1, .int .i64 1]) ∧ Below w.heap.size w w' := by
  unfold leafV
  have hb := box_leaf op n w
  go_enter Tryz.func86, Tryz.ntmps86
  go_wp2_with fail
  go_loop [2, 3, 11] (fun x2 x3 x11 => x2 = .int .i64 0 ∧ x3 = .int .i64 0 ∧ x11 = .int .i64 0) (fun _ _ _ => 0)
  case atStart => exact ⟨rfl, rfl, rfl⟩
  case round =>
    obtain ⟨rfl, rfl, rfl⟩ := hrel
    go_wp2_with fail
    go_ret2
    exact ⟨rfl, hb⟩
set_option maxRecDepth 100000 in
theorem locals_leaf (op n k : Int) (w : World) : Calls Tryz.prog 57 #[leafV op n, .int .i64 k] w fun e w' => e = .returned (.int .i64 k) ∧ Below w.heap.size w w' := by
  unfold leafV
  have hb := box_leaf op n w
  go_enter Tryz.func57, Tryz.ntmps57
  go_wp2_with fail
  go_loop [5, 12] (fun x5 x12 => x5 = .int .i64 k ∧ x12 = .int .i64 0) (fun _ _ => 0)
  case atStart => exact ⟨rfl, rfl⟩
  case round =>
    obtain ⟨rfl, rfl⟩ := hrel
    go_wp2_with fail
    go_ret
    exact ⟨rfl, hb⟩
set_option maxHeartbeats 1000000 in
set_option maxRecDepth 100000 in
theorem measure_node (B : Nat) (w : World) (h : NodeAt w B) : Calls Tryz.prog 86 #[nodeV B] w fun e w' => e = .returned (.tuple #[.int .i64 3, .int .i64 2]) ∧ Below w.heap.size w w' := by
  unfold nodeV
  have hb := box_node B w
  have hN := h.below hb
  go_enter Tryz.func86, Tryz.ntmps86
  go_wp2_with fail
  generalize w.alloc (.cells #[.int .i64 12, .int .i64 1, .string ⟨#[]⟩, .slice (some ⟨B, 0, none⟩) 2 2] 29) = W at *
  clear h
  go_loopw [2, 3, 11] (fun a b i wr => (i = .int .i64 0 ∧ a = .int .i64 0 ∧ b = .int .i64 0 ∨ i = .int .i64 1 ∧ a = .int .i64 1 ∧ b = .int .i64 1 ∨ i = .int .i64 2 ∧ a = .int .i64 2 ∧ b = .int .i64 1) ∧ Below W.heap.size W wr) (fun _ _ i _ => 2 - (intOf i).toNat)
  case atStart => exact ⟨.inl ⟨rfl, rfl, rfl⟩, Below.refl _ _⟩
  case round =>
    obtain ⟨hrel, hbr⟩ := hrel
    have hN2 := hN.below hbr
    obtain ⟨c0, c1, c2, c3, c4, c5, c6, c7⟩ := hN2.cells
    rcases hrel with ⟨rfl, rfl, rfl⟩ | ⟨rfl, rfl, rfl⟩ | ⟨rfl, rfl, rfl⟩
    · go_wp2_with fail
      refine (measure_leaf _ _ _).mono ?_
      rintro e w2 ⟨rfl, hb2⟩
      have hb3 := hbr.trans (((Below.refl _ _).alloc (Nat.le_refl _) _ |>.trans (hb2.mono (by simp))).mono hbr.size)
      clear hb2 c0 c1 c2 c3 c4 c5 c6 c7 hN2
      go_wp2_with fail
      go_roundw
      case rel => exact ⟨.inr (.inl ⟨rfl, rfl, rfl⟩), hb3⟩
      case measure => simp [intOf]
    · go_wp2_with fail
      refine (measure_leaf _ _ _).mono ?_
      rintro e w2 ⟨rfl, hb2⟩
      have hb3 := hbr.trans (((Below.refl _ _).alloc (Nat.le_refl _) _ |>.trans (hb2.mono (by simp))).mono hbr.size)
      clear hb2 c0 c1 c2 c3 c4 c5 c6 c7 hN2
      go_wp2_with fail
      go_roundw
      case rel => exact ⟨.inr (.inr ⟨rfl, rfl, rfl⟩), hb3⟩
      case measure => simp [intOf]
    · have hbe := hb.trans (hbr.mono hb.size)
      go_wp2_with fail
      go_ret2
      exact ⟨rfl, hbe⟩
theorem large_node (B : Nat) (w : World) (h : NodeAt w B) : Calls Tryz.prog 70 #[nodeV B] w fun e w' => e = .returned (.bool false) ∧ Below w.heap.size w w' := by
  unfold nodeV
  have hb := box_node B w
  have hN := h.below hb
  have HM := Lib.hid (measure_node B _ hN)
  go_enter Tryz.func70, Tryz.ntmps70
  go_wp2_with fail
  refine HM.out.mono ?_
  rintro e w2 ⟨rfl, hb2⟩
  have hbe := hb.trans (hb2.mono hb.size)
  go_wp2_with fail
  go_ret
  exact ⟨rfl, hbe⟩
set_option maxHeartbeats 1000000 in
set_option maxRecDepth 100000 in
theorem locals_node (B : Nat) (w : World) (h : NodeAt w B) : Calls Tryz.prog 57 #[nodeV B, .int .i64 1] w fun e w' => e = .returned (.int .i64 1) ∧ Below w.heap.size w w' := by
  unfold nodeV
  have hb := box_node B w
  have hN := h.below hb
  have gP := new_heap w (.cells #[.int .i64 12, .int .i64 1, .string ⟨#[]⟩, .slice (some ⟨B, 0, none⟩) 2 2] 29)
  go_enter Tryz.func57, Tryz.ntmps57
  go_wp2_with fail
  generalize w.alloc (.cells #[.int .i64 12, .int .i64 1, .string ⟨#[]⟩, .slice (some ⟨B, 0, none⟩) 2 2] 29) = W at *
  clear h
  go_loopw [5, 12] (fun b i wr => (i = .int .i64 0 ∨ i = .int .i64 1 ∨ i = .int .i64 2) ∧ b = .int .i64 1 ∧ Below W.heap.size W wr) (fun _ i _ => 2 - (intOf i).toNat)
  case atStart => exact ⟨.inl rfl, rfl, Below.refl _ _⟩
  case round =>
    obtain ⟨hrel, rfl, hbr⟩ := hrel
    have hN2 := hN.below hbr
    obtain ⟨c0, c1, c2, c3, c4, c5, c6, c7⟩ := hN2.cells
    have gP2 := (hbr.block _ (heap_lt gP)).trans gP
    rcases hrel with rfl | rfl | rfl
    · have ga := grown_alloc wr (.cells #[.int .i64 21, .int .i64 0, .string ⟨#[]⟩, .slice none 0 0] 29)
      have gP3 := (ga.block _ (heap_lt gP2) (by nofun)).trans gP2
      have gL3 := new_heap wr (.cells #[.int .i64 21, .int .i64 0, .string ⟨#[]⟩, .slice none 0 0] 29)
      obtain ⟨p0, p1, p2, p3⟩ := box_cells gP3
      obtain ⟨l0, l1, l2, l3⟩ := box_cells gL3
      go_wp2_with fail
      refine (binds_any _ _).mono ?_
      rintro e w' ⟨rfl, rfl⟩
      go_wp2_with fail
      refine (locals_leaf _ _ _ _).mono ?_
      rintro e w2 ⟨rfl, hb2⟩
      have hb3 := hbr.trans (((Below.refl _ _).alloc (Nat.le_refl _) _ |>.trans (hb2.mono (by simp))).mono hbr.size)
      clear hb2 c0 c1 c2 c3 c4 c5 c6 c7 hN2 p0 p1 p2 p3 l0 l1 l2 l3
      go_wp2_with fail
      go_roundw
      case rel => exact ⟨.inr (.inl rfl), rfl, hb3⟩
      case measure => simp [intOf]
    · have ga := grown_alloc wr (.cells #[.int .i64 2, .int .i64 1, .string ⟨#[]⟩, .slice none 0 0] 29)
      have gP3 := (ga.block _ (heap_lt gP2) (by nofun)).trans gP2
      have gL3 := new_heap wr (.cells #[.int .i64 2, .int .i64 1, .string ⟨#[]⟩, .slice none 0 0] 29)
      obtain ⟨p0, p1, p2, p3⟩ := box_cells gP3
      obtain ⟨l0, l1, l2, l3⟩ := box_cells gL3
      go_wp2_with fail
      refine (binds_any _ _).mono ?_
      rintro e w' ⟨rfl, rfl⟩
      go_wp2_with fail
      refine (locals_leaf _ _ _ _).mono ?_
      rintro e w2 ⟨rfl, hb2⟩
      have hb3 := hbr.trans (((Below.refl _ _).alloc (Nat.le_refl _) _ |>.trans (hb2.mono (by simp))).mono hbr.size)
      clear hb2 c0 c1 c2 c3 c4 c5 c6 c7 hN2 p0 p1 p2 p3 l0 l1 l2 l3
      go_wp2_with fail
      go_roundw
      case rel => exact ⟨.inr (.inr rfl), rfl, hb3⟩
      case measure => simp [intOf]
    · have hbe := hb.trans (hbr.mono hb.size)
      go_wp2_with fail
      go_ret
      exact ⟨rfl, hbe⟩

theorem cwithin_any (n a b : Int) (w : World) : Calls Tryz.prog 42 #[.int .i64 n, .int .i64 a, .int .i64 b] w fun e w' => e = .returned (.bool (inB n a b)) ∧ w = w' := by
  go_enter Tryz.func42, Tryz.ntmps42
  go_wp2
  all_goals
    go_ret
    refine ⟨ret_bool ?_, rfl⟩
    simp [inB] <;> omega
theorem arity_1 (w : World) : Calls Tryz.prog 96 #[.int .i64 1] w fun e w' => e = .returned (.int .i64 2) ∧ w = w' := by
  go_enter Tryz.func96, Tryz.ntmps96
  go_wp2_with fail
  go_ret
  exact ⟨rfl, rfl⟩
theorem form_local (a : Addr) (w : World) : Calls Tryz.prog 87 #[.pointer (some a), leafV 21 0, .int .i64 1] w fun e w' => e = .returned (.bool true) ∧ Below w.heap.size w w' := by
  unfold leafV
  have hb := box_leaf 21 0 w
  go_enter Tryz.func87, Tryz.ntmps87
  go_wp2_with fail
  refine (cwithin_any _ _ _ _).mono ?_
  rintro e w' ⟨rfl, rfl⟩
  go_wp2_with fail
  go_ret
  exact ⟨rfl, hb⟩
theorem form_int (a : Addr) (w : World) : Calls Tryz.prog 87 #[.pointer (some a), leafV 2 1, .int .i64 1] w fun e w' => e = .returned (.bool true) ∧ Below w.heap.size w w' := by
  unfold leafV
  have hb := box_leaf 2 1 w
  go_enter Tryz.func87, Tryz.ntmps87
  go_wp2_with fail
  refine (cwithin_any _ _ _ _).mono ?_
  rintro e w' ⟨rfl, rfl⟩
  go_wp2_with fail
  go_ret
  exact ⟨rfl, hb⟩
theorem form_node (a : Addr) (B : Nat) (w : World) : Calls Tryz.prog 87 #[.pointer (some a), nodeV B, .int .i64 1] w fun e w' => e = .returned (.bool true) ∧ Below w.heap.size w w' := by
  unfold nodeV
  have hb := box_node B w
  go_enter Tryz.func87, Tryz.ntmps87
  go_wp2_with fail
  refine (arity_1 _).mono ?_
  rintro e w' ⟨rfl, rfl⟩
  go_wp2_with fail
  refine (arity_1 _).mono ?_
  rintro e w' ⟨rfl, rfl⟩
  go_wp2_with fail
  go_ret
  exact ⟨rfl, hb⟩
theorem flat_local (a : Addr) (w : World) : Calls Tryz.prog 71 #[.pointer (some a), leafV 21 0, .int .i64 1] w fun e w' => e = .returned (.bool true) ∧ Below w.heap.size w w' := by
  unfold leafV
  have hb := box_leaf 21 0 w
  have gP := new_heap w (.cells #[.int .i64 21, .int .i64 0, .string ⟨#[]⟩, .slice none 0 0] 29)
  go_enter Tryz.func71, Tryz.ntmps71
  go_wp2_with fail
  refine (form_local _ _).mono ?_
  rintro e w2 ⟨rfl, hb2⟩
  have gP2 := (hb2.block _ (heap_lt gP)).trans gP
  obtain ⟨p0, p1, p2, p3⟩ := box_cells gP2
  have hbe := hb.trans (hb2.mono hb.size)
  go_wp2_with fail
  go_loop [18] (fun i => i = .int .i64 0) (fun _ => 0)
  case atStart => rfl
  case round =>
    subst hrel
    go_wp2_with fail
    go_ret
    exact ⟨rfl, hbe⟩
theorem flat_int (a : Addr) (w : World) : Calls Tryz.prog 71 #[.pointer (some a), leafV 2 1, .int .i64 1] w fun e w' => e = .returned (.bool true) ∧ Below w.heap.size w w' := by
  unfold leafV
  have hb := box_leaf 2 1 w
  have gP := new_heap w (.cells #[.int .i64 2, .int .i64 1, .string ⟨#[]⟩, .slice none 0 0] 29)
  go_enter Tryz.func71, Tryz.ntmps71
  go_wp2_with fail
  refine (form_int _ _).mono ?_
  rintro e w2 ⟨rfl, hb2⟩
  have gP2 := (hb2.block _ (heap_lt gP)).trans gP
  obtain ⟨p0, p1, p2, p3⟩ := box_cells gP2
  have hbe := hb.trans (hb2.mono hb.size)
  go_wp2_with fail
  go_loop [18] (fun i => i = .int .i64 0) (fun _ => 0)
  case atStart => rfl
  case round =>
    subst hrel
    go_wp2_with fail
    go_ret
    exact ⟨rfl, hbe⟩
set_option maxHeartbeats 1000000 in
set_option maxRecDepth 100000 in
theorem flat_node (a : Addr) (B : Nat) (w : World) (h : NodeAt w B) : Calls Tryz.prog 71 #[.pointer (some a), nodeV B, .int .i64 1] w fun e w' => e = .returned (.bool true) ∧ Below w.heap.size w w' := by
  unfold nodeV
  have hb := box_node B w
  have hN := h.below hb
  have gP := new_heap w (.cells #[.int .i64 12, .int .i64 1, .string ⟨#[]⟩, .slice (some ⟨B, 0, none⟩) 2 2] 29)
  go_enter Tryz.func71, Tryz.ntmps71
  go_wp2_with fail
  generalize w.alloc (.cells #[.int .i64 12, .int .i64 1, .string ⟨#[]⟩, .slice (some ⟨B, 0, none⟩) 2 2] 29) = W0 at *
  clear h
  refine (form_node _ _ _).mono ?_
  rintro e W ⟨rfl, hb2⟩
  have gP1 := (hb2.block _ (heap_lt gP)).trans gP
  have hN1 := hN.below hb2
  have hbW := hb.trans (hb2.mono hb.size)
  obtain ⟨p0, p1, p2, p3⟩ := box_cells gP1
  clear hN gP hb2 hb
  go_wp2_with fail
  clear p0 p1 p2 p3
  go_loopw [18] (fun i wr => (i = .int .i64 0 ∨ i = .int .i64 1 ∨ i = .int .i64 2) ∧ Below W.heap.size W wr) (fun i _ => 2 - (intOf i).toNat)
  case atStart => exact ⟨.inl rfl, Below.refl _ _⟩
  case round =>
    obtain ⟨hrel, hbr⟩ := hrel
    have hN2 := hN1.below hbr
    obtain ⟨c0, c1, c2, c3, c4, c5, c6, c7⟩ := hN2.cells
    have gP2 := (hbr.block _ (heap_lt gP1)).trans gP1
    rcases hrel with rfl | rfl | rfl
    · have ga := grown_alloc wr (.cells #[.int .i64 21, .int .i64 0, .string ⟨#[]⟩, .slice none 0 0] 29)
      have gP3 := (ga.block _ (heap_lt gP2) (by nofun)).trans gP2
      have gL3 := new_heap wr (.cells #[.int .i64 21, .int .i64 0, .string ⟨#[]⟩, .slice none 0 0] 29)
      obtain ⟨p0, p1, p2, p3⟩ := box_cells gP3
      obtain ⟨l0, l1, l2, l3⟩ := box_cells gL3
      go_wp2_with fail
      refine (binds_any _ _).mono ?_
      rintro e w' ⟨rfl, rfl⟩
      go_wp2_with fail
      refine (flat_local _ _).mono ?_
      rintro e w2 ⟨rfl, hb2⟩
      have hb3 := hbr.trans (((Below.refl _ _).alloc (Nat.le_refl _) _ |>.trans (hb2.mono (by simp))).mono hbr.size)
      clear hb2 c0 c1 c2 c3 c4 c5 c6 c7 hN2 p0 p1 p2 p3 l0 l1 l2 l3
      go_wp2_with fail
      go_round
      case rel => exact ⟨.inr (.inl rfl), hb3⟩
      case measure => simp [intOf]
    · have ga := grown_alloc wr (.cells #[.int .i64 2, .int .i64 1, .string ⟨#[]⟩, .slice none 0 0] 29)
      have gP3 := (ga.block _ (heap_lt gP2) (by nofun)).trans gP2
      have gL3 := new_heap wr (.cells #[.int .i64 2, .int .i64 1, .string ⟨#[]⟩, .slice none 0 0] 29)
      obtain ⟨p0, p1, p2, p3⟩ := box_cells gP3
      obtain ⟨l0, l1, l2, l3⟩ := box_cells gL3
      go_wp2_with fail
      refine (binds_any _ _).mono ?_
      rintro e w' ⟨rfl, rfl⟩
      go_wp2_with fail
      refine (flat_int _ _).mono ?_
      rintro e w2 ⟨rfl, hb2⟩
      have hb3 := hbr.trans (((Below.refl _ _).alloc (Nat.le_refl _) _ |>.trans (hb2.mono (by simp))).mono hbr.size)
      clear hb2 c0 c1 c2 c3 c4 c5 c6 c7 hN2 p0 p1 p2 p3 l0 l1 l2 l3
      go_wp2_with fail
      go_round
      case rel => exact ⟨.inr (.inr rfl), hb3⟩
      case measure => simp [intOf]
    · have hbe := hbW.trans (hbr.mono hbW.size)
      go_wp2_with fail
      go_ret
      exact ⟨rfl, hbe⟩
/-- The function of the example: no captures. -/
def flatV (B : Nat) : Value := .agg #[.int .i64 0, .int .i64 12, .int .i64 1, .string ⟨#[]⟩, .slice (some ⟨B, 0, none⟩) 2 2]
theorem flat_cells {w : World} {q : Nat} {x y z u v : Value} {t : TypeId} (h : w.heap[q]? = some (.cells #[x, y, z, u, v] t (0, 0))) : w.cell? ⟨q, 0, none⟩ = some x ∧ w.cell? ⟨q, 1, none⟩ = some y ∧ w.cell? ⟨q, 2, none⟩ = some z ∧ w.cell? ⟨q, 3, none⟩ = some u ∧ w.cell? ⟨q, 4, none⟩ = some v := by
  simp [World.cell?, h]
set_option maxHeartbeats 1000000 in
set_option maxRecDepth 100000 in
theorem cfunction_any (B : Nat) (F : Value) (w : World) (h : NodeAt w B) (hF : ∃ f a b, F = .func f a b) : Calls Tryz.prog 44 #[flatV B, F] w fun e w' => e = .returned (.bool true) ∧ Below w.heap.size w w' := by
  obtain ⟨f, fa, fb, rfl⟩ := hF
  unfold flatV
  have hb : Below w.heap.size w ((w.alloc (.cells #[.int .i64 0, .int .i64 12, .int .i64 1, .string ⟨#[]⟩, .slice (some ⟨B, 0, none⟩) 2 2] 31)).alloc (.cells #[.int .i64 0, .func f fa fb] 122)) := ((Below.refl _ _).alloc (Nat.le_refl _) _).alloc (by simp) _
  have gP : ((w.alloc (.cells #[.int .i64 0, .int .i64 12, .int .i64 1, .string ⟨#[]⟩, .slice (some ⟨B, 0, none⟩) 2 2] 31)).alloc (.cells #[.int .i64 0, .func f fa fb] 122)).heap[w.heap.size]? = some (.cells #[.int .i64 0, .int .i64 12, .int .i64 1, .string ⟨#[]⟩, .slice (some ⟨B, 0, none⟩) 2 2] 31 (0, 0)) := (Below.heap_alloc _ _ _ (by simp)).trans (new_heap w _)
  have hN := h.below hb
  go_enter Tryz.func44, Tryz.ntmps44
  go_wp2_with fail
  generalize ((w.alloc (.cells #[.int .i64 0, .int .i64 12, .int .i64 1, .string ⟨#[]⟩, .slice (some ⟨B, 0, none⟩) 2 2] 31)).alloc (.cells #[.int .i64 0, .func f fa fb] 122)) = W at *
  refine (cwithin_any _ _ _ _).mono ?_
  rintro e w' ⟨rfl, rfl⟩
  obtain ⟨p0, p1, p2, p3, p4⟩ := flat_cells gP
  have hin : inB 0 0 1000 = true := by decide
  rw [hin]
  go_wp2_with fail
  refine (large_node _ _ hN).mono ?_
  rintro e w2 ⟨rfl, hb2⟩
  have gP2 := (hb2.block _ (heap_lt gP)).trans gP
  have hN2 := hN.below hb2
  have hbb := hb.trans (hb2.mono hb.size)
  clear p0 p1 p2 p3 p4
  obtain ⟨p0, p1, p2, p3, p4⟩ := flat_cells gP2
  go_wp2_with fail
  refine (flat_node _ _ _ hN2).mono ?_
  rintro e w3 ⟨rfl, hb3⟩
  have hbe := hbb.trans (hb3.mono hbb.size)
  go_wp2_with fail
  go_ret
  exact ⟨rfl, hbe⟩
set_option maxHeartbeats 1000000 in
set_option maxRecDepth 100000 in
theorem cLocals_any (B : Nat) (w : World) (h : NodeAt w B) : Calls Tryz.prog 28 #[flatV B] w fun e w' => e = .returned (.tuple #[.int .i64 1, .int .i64 0]) ∧ Below w.heap.size w w' := by
  unfold flatV
  have hmm := @run_makeMap Tryz.prog
  have g1 := grown_alloc w (.cells #[.int .i64 0, .int .i64 12, .int .i64 1, .string ⟨#[]⟩, .slice (some ⟨B, 0, none⟩) 2 2] 31)
  have gF := new_heap w (.cells #[.int .i64 0, .int .i64 12, .int .i64 1, .string ⟨#[]⟩, .slice (some ⟨B, 0, none⟩) 2 2] 31)
  have hN := h.below (grown_under g1 (Nat.le_refl _) (by nofun))
  have hb1 := grown_under g1 (Nat.le_refl _) (by nofun)
  clear g1
  go_enter Tryz.func28, Tryz.ntmps28
  go_upto_region 1 with fail
  generalize w.alloc (.cells #[.int .i64 0, .int .i64 12, .int .i64 1, .string ⟨#[]⟩, .slice (some ⟨B, 0, none⟩) 2 2] 31) = W at *
  have g2 := grown_alloc W (.map #[] 0)
  have g3 := grown_alloc (W.alloc (.map #[] 0)) (.cells #[.map (some W.heap.size)] 108)
  have hltF := heap_lt gF
  have gF3 := (g3.block _ (by simp; omega) (by nofun)).trans ((g2.block _ hltF (by nofun)).trans gF)
  have hN3 := (hN.below (grown_under g2 (Nat.le_refl _) (by nofun))).below (grown_under g3 (Nat.le_refl _) (by nofun))
  have hb3 := (hb1.trans ((grown_under (B := w.heap.size) g2 (by omega) (by nofun)))).trans (grown_under (B := w.heap.size) g3 (by simp; omega) (by nofun))
  clear g2 g3
  obtain ⟨p0, p1, p2, p3, p4⟩ := flat_cells gF3
  go_wp2_with fail
  refine (cfunction_any _ _ _ hN3 ⟨_, _, _, rfl⟩).mono ?_
  rintro e w4 ⟨rfl, hb4⟩
  have gF4 := (hb4.block _ (heap_lt gF3)).trans gF3
  have hN4 := hN3.below hb4
  have hb5 := hb3.trans (hb4.mono hb3.size)
  clear p0 p1 p2 p3 p4
  obtain ⟨p0, p1, p2, p3, p4⟩ := flat_cells gF4
  go_wp2_with fail
  refine (locals_node _ _ hN4).mono ?_
  rintro e w5 ⟨rfl, hb6⟩
  have hbe := hb5.trans (hb6.mono hb5.size)
  go_wp2_with fail
  go_ret2
  exact ⟨rfl, hbe⟩

set_option maxRecDepth 100000 in
theorem strings_local (w : World) : Calls Tryz.prog 46 #[.slice none 0 0, leafV 21 0] w fun e w' => e = .returned (.slice none 0 0) ∧ Below w.heap.size w w' := by
  unfold leafV
  have hb := box_leaf 21 0 w
  go_enter Tryz.func46, Tryz.ntmps46
  go_wp2_with fail
  go_loop [0, 18] (fun l i => l = .slice none 0 0 ∧ i = .int .i64 0) (fun _ _ => 0)
  case atStart => exact ⟨rfl, rfl⟩
  case round =>
    obtain ⟨rfl, rfl⟩ := hrel
    go_wp2_with fail
    go_ret
    exact ⟨rfl, hb⟩
set_option maxRecDepth 100000 in
theorem strings_int (w : World) : Calls Tryz.prog 46 #[.slice none 0 0, leafV 2 1] w fun e w' => e = .returned (.slice none 0 0) ∧ Below w.heap.size w w' := by
  unfold leafV
  have hb := box_leaf 2 1 w
  go_enter Tryz.func46, Tryz.ntmps46
  go_wp2_with fail
  go_loop [0, 18] (fun l i => l = .slice none 0 0 ∧ i = .int .i64 0) (fun _ _ => 0)
  case atStart => exact ⟨rfl, rfl⟩
  case round =>
    obtain ⟨rfl, rfl⟩ := hrel
    go_wp2_with fail
    go_ret
    exact ⟨rfl, hb⟩
set_option maxHeartbeats 1000000 in
set_option maxRecDepth 100000 in
theorem strings_node (B : Nat) (w : World) (h : NodeAt w B) : Calls Tryz.prog 46 #[.slice none 0 0, nodeV B] w fun e w' => e = .returned (.slice none 0 0) ∧ Below w.heap.size w w' := by
  unfold nodeV
  have hb := box_node B w
  have hN := h.below hb
  go_enter Tryz.func46, Tryz.ntmps46
  go_wp2_with fail
  generalize w.alloc (.cells #[.int .i64 12, .int .i64 1, .string ⟨#[]⟩, .slice (some ⟨B, 0, none⟩) 2 2] 29) = W at *
  clear h
  go_loopw [0, 18] (fun l i wr => (i = .int .i64 0 ∨ i = .int .i64 1 ∨ i = .int .i64 2) ∧ l = .slice none 0 0 ∧ Below W.heap.size W wr) (fun _ i _ => 2 - (intOf i).toNat)
  case atStart => exact ⟨.inl rfl, rfl, Below.refl _ _⟩
  case round =>
    obtain ⟨hrel, rfl, hbr⟩ := hrel
    have hN2 := hN.below hbr
    obtain ⟨c0, c1, c2, c3, c4, c5, c6, c7⟩ := hN2.cells
    rcases hrel with rfl | rfl | rfl
    · have gL3 := new_heap wr (.cells #[.int .i64 21, .int .i64 0, .string ⟨#[]⟩, .slice none 0 0] 29)
      obtain ⟨l0, l1, l2, l3⟩ := box_cells gL3
      go_wp2_with fail
      refine (strings_local _).mono ?_
      rintro e w2 ⟨rfl, hb2⟩
      have hb3 := hbr.trans (((Below.refl _ _).alloc (Nat.le_refl _) _ |>.trans (hb2.mono (by simp))).mono hbr.size)
      clear hb2 c0 c1 c2 c3 c4 c5 c6 c7 hN2 l0 l1 l2 l3
      go_wp2_with fail
      go_roundw
      case rel => exact ⟨.inr (.inl rfl), rfl, hb3⟩
      case measure => simp [intOf]
    · have gL3 := new_heap wr (.cells #[.int .i64 2, .int .i64 1, .string ⟨#[]⟩, .slice none 0 0] 29)
      obtain ⟨l0, l1, l2, l3⟩ := box_cells gL3
      go_wp2_with fail
      refine (strings_int _).mono ?_
      rintro e w2 ⟨rfl, hb2⟩
      have hb3 := hbr.trans (((Below.refl _ _).alloc (Nat.le_refl _) _ |>.trans (hb2.mono (by simp))).mono hbr.size)
      clear hb2 c0 c1 c2 c3 c4 c5 c6 c7 hN2 l0 l1 l2 l3
      go_wp2_with fail
      go_roundw
      case rel => exact ⟨.inr (.inr rfl), rfl, hb3⟩
      case measure => simp [intOf]
    · have hbe := hb.trans (hbr.mono hb.size)
      go_wp2_with fail
      go_ret
      exact ⟨rfl, hbe⟩
theorem grow_0 (w : World) : Calls Tryz.prog 72 #[.slice none 0 0, .int .i64 0] w fun e w' => e = .returned (.slice none 0 0) ∧ w = w' := by
  go_enter Tryz.func72, Tryz.ntmps72
  go_wp2_with fail
  go_ret
  exact ⟨rfl, rfl⟩
theorem clone_0 (w : World) : Calls Tryz.prog 49 #[.slice none 0 0] w fun e w' => e = .returned (.slice none 0 0) ∧ w = w' := by
  have q47 : ∀ (w : World) (a : Option Addr) (n c n' c' : Nat), (binOp .eql 34 (.slice a n c) (.slice none n' c')).run Tryz.prog w = .ok (.bool a.isNone) w := fun w a n c n' c' => Lib.run_eql_slice_nil w _ _ a n c n' c' Tryz.underlying34
  go_enter Tryz.func49, Tryz.ntmps49
  go_wp2_with fail
  go_ret
  exact ⟨rfl, rfl⟩
theorem info_str : (Tryz.prog.info? 9).map (fun i => (i.zero, i.size, i.bytes)) = some (some (.string ByteArray.empty), 1, 16) := by kernel_rfl
set_option maxHeartbeats 1000000 in
set_option maxRecDepth 100000 in
theorem concat_0 (g : Nat) (w : World) (h : w.heap[g]? = some (.cells #[.slice none 0 0, .slice none 0 0] 34 (0, 0))) : Calls Tryz.prog 47 #[.slice (some ⟨g, 0, none⟩) 2 2] w fun e w' => e = .returned (.slice none 0 0) ∧ w = w' := by
  have c0 : w.cell? ⟨g, 0, none⟩ = some (.slice none 0 0) := by simp [World.cell?, h]
  have c1 : w.cell? ⟨g, 1, none⟩ = some (.slice none 0 0) := by simp [World.cell?, h]
  clear h
  obtain ⟨is0, his, _, _, _⟩ := info_parts info_str
  go_enter Tryz.func47, Tryz.ntmps47
  go_wp2_with fail
  go_loop [3, 11] (fun n i => n = .int .i64 0 ∧ (i = .int .i64 0 ∨ i = .int .i64 1 ∨ i = .int .i64 2)) (fun _ i => 2 - (intOf i).toNat)
  case atStart => exact ⟨rfl, .inl rfl⟩
  case round =>
    obtain ⟨rfl, hrel⟩ := hrel
    rcases hrel with rfl | rfl | rfl
    · go_wp2_with fail
      go_round
      case rel => exact ⟨rfl, .inr (.inl rfl)⟩
      case measure => simp [intOf]
    · go_wp2_with fail
      go_round
      case rel => exact ⟨rfl, .inr (.inr rfl)⟩
      case measure => simp [intOf]
    · go_wp2_with fail
      refine (grow_0 _).mono ?_
      rintro e w' ⟨rfl, rfl⟩
      go_wp2_with fail
      go_loop [6, 27] (fun v i => v = .slice none 0 0 ∧ (i = .int .i64 0 ∨ i = .int .i64 1 ∨ i = .int .i64 2)) (fun _ i => 2 - (intOf i).toNat)
      case atStart => exact ⟨rfl, .inl rfl⟩
      case round =>
        obtain ⟨rfl, hrel⟩ := hrel
        rcases hrel with rfl | rfl | rfl
        · go_wp2_with (at_builtin; refine wpList_append_own_none rfl _ _ 34 rfl 0 9 is0 1 Tryz.underlying34 his _ 0 [] rfl ⟨rfl, .inl ⟨rfl, rfl⟩⟩ rfl ?_)
          go_round
          case rel => exact ⟨rfl, .inr (.inl rfl)⟩
          case measure => simp [intOf]
        · go_wp2_with (at_builtin; refine wpList_append_own_none rfl _ _ 34 rfl 0 9 is0 1 Tryz.underlying34 his _ 0 [] rfl ⟨rfl, .inl ⟨rfl, rfl⟩⟩ rfl ?_)
          go_round
          case rel => exact ⟨rfl, .inr (.inr rfl)⟩
          case measure => simp [intOf]
        · go_wp2_with fail
          go_ret
          exact ⟨rfl, rfl⟩
set_option maxHeartbeats 1000000 in
set_option maxRecDepth 100000 in
theorem with_any (B b1 : Nat) (w : World) (h : NodeAt w B) (h1 : w.heap[b1]? = some (.cells #[.int .i64 12, .int .i64 1, .string ⟨#[]⟩, .slice (some ⟨B, 0, none⟩) 2 2] 29 (0, 0))) : Calls Tryz.prog 23 #[.slice none 0 0, .slice (some ⟨b1, 0, none⟩) 1 1] w fun e w' => e = .returned (.tuple #[.slice none 0 0, .int .i64 0]) ∧ Below w.heap.size w w' := by
  have hmm := @run_makeMap Tryz.prog
  go_enter Tryz.func23, Tryz.ntmps23
  go_wp2_with fail
  go_loopw [6, 21] (fun l i wr => (i = .int .i64 0 ∨ i = .int .i64 1) ∧ l = .slice none 0 0 ∧ Below w.heap.size w wr) (fun _ i _ => 1 - (intOf i).toNat)
  case atStart => exact ⟨.inl rfl, rfl, Below.refl _ _⟩
  case round =>
    obtain ⟨hrel, rfl, hbr⟩ := hrel
    rcases hrel with rfl | rfl
    · have hN2 := h.below hbr
      obtain ⟨c0, c1, c2, c3⟩ := box_cells ((hbr.block _ (heap_lt h1)).trans h1)
      have gL3 := new_heap wr (.cells #[.int .i64 12, .int .i64 1, .string ⟨#[]⟩, .slice (some ⟨B, 0, none⟩) 2 2] 29)
      obtain ⟨l0, l1, l2, l3⟩ := box_cells gL3
      have hN3 := hN2.below (box_node B wr)
      go_wp2_with fail
      refine (strings_node B _ hN3).mono ?_
      rintro e w2 ⟨rfl, hb2⟩
      have hb3 := hbr.trans (((Below.refl _ _).alloc (Nat.le_refl _) _ |>.trans (hb2.mono (by simp))).mono hbr.size)
      clear hb2 c0 c1 c2 c3 hN2 l0 l1 l2 l3 hN3 gL3
      go_wp2_with fail
      go_roundw
      case rel => exact ⟨.inr rfl, rfl, hb3⟩
      case measure => simp [intOf]
    · have hbA := hbr.alloc (o := .cells #[.slice none 0 0, .slice none 0 0] 34) hbr.size
      have gA := new_heap wr (.cells #[.slice none 0 0, .slice none 0 0] 34)
      have HC := Lib.hid (concat_0 _ _ gA)
      clear gA h h1
      go_wp2_with fail
      refine HC.out.mono ?_
      rintro e w' ⟨rfl, rfl⟩
      go_wp2_with fail
      go_loop [34] (fun i => i = .int .i64 0) (fun _ => 0)
      case atStart => rfl
      case round =>
        subst hrel
        go_wp2_with fail
        refine (clone_0 _).mono ?_
        rintro e w' ⟨rfl, rfl⟩
        have hbB := hbA.alloc (o := .map #[] 0) hbA.size
        go_wp2_with fail
        go_loop [51] (fun i => i = .int .i64 0) (fun _ => 0)
        case atStart => rfl
        case round =>
          subst hrel
          go_wp2_with fail
          go_loop [13, 60] (fun o i => o = .slice none 0 0 ∧ i = .int .i64 0) (fun _ _ => 0)
          case atStart => exact ⟨rfl, rfl⟩
          case round =>
            obtain ⟨rfl, rfl⟩ := hrel
            go_wp2_with fail
            go_ret2
            exact ⟨rfl, hbB⟩
end Go.Proofs.YtidolpcbbbakmaaGreat
