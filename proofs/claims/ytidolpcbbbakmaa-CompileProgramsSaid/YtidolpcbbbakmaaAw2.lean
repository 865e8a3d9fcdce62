/- The example of law 47: the function is a valid one, with one local variable. -/
import Derived.Test.YtidolpcbbbakmaaAw1
namespace Go.Proofs.Ytidolpcbbbakmaa
open Go Go.RowKit

theorem cwithin_any (n a b : Int) (w : World) : Calls Try.prog 37 #[.int .i64 n, .int .i64 a, .int .i64 b] w fun e w' => e = .returned (.bool (inB n a b)) ∧ w = w' := by
  go_enter Try.func37, Try.ntmps37
  go_wp2
  all_goals
    go_ret
    refine ⟨ret_bool ?_, rfl⟩
    simp [inB] <;> omega
theorem arity_1 (w : World) : Calls Try.prog 81 #[.int .i64 1] w fun e w' => e = .returned (.int .i64 2) ∧ w = w' := by
  go_enter Try.func81, Try.ntmps81
  go_wp2_with fail
  go_ret
  exact ⟨rfl, rfl⟩
theorem form_local (a : Addr) (w : World) : Calls Try.prog 77 #[.pointer (some a), leafV 21 0, .int .i64 1] w fun e w' => e = .returned (.bool true) ∧ Below w.heap.size w w' := by
  unfold leafV
  have hb := box_leaf 21 0 w
  go_enter Try.func77, Try.ntmps77
  go_wp2_with fail
  refine (cwithin_any _ _ _ _).mono ?_
  rintro e w' ⟨rfl, rfl⟩
  go_wp2_with fail
  go_ret
  exact ⟨rfl, hb⟩
theorem form_int (a : Addr) (w : World) : Calls Try.prog 77 #[.pointer (some a), leafV 2 1, .int .i64 1] w fun e w' => e = .returned (.bool true) ∧ Below w.heap.size w w' := by
  unfold leafV
  have hb := box_leaf 2 1 w
  go_enter Try.func77, Try.ntmps77
  go_wp2_with fail
  refine (cwithin_any _ _ _ _).mono ?_
  rintro e w' ⟨rfl, rfl⟩
  go_wp2_with fail
  go_ret
  exact ⟨rfl, hb⟩
theorem form_node (a : Addr) (B : Nat) (w : World) : Calls Try.prog 77 #[.pointer (some a), nodeV B, .int .i64 1] w fun e w' => e = .returned (.bool true) ∧ Below w.heap.size w w' := by
  unfold nodeV
  have hb := box_node B w
  go_enter Try.func77, Try.ntmps77
  go_wp2_with fail
  refine (arity_1 _).mono ?_
  rintro e w' ⟨rfl, rfl⟩
  go_wp2_with fail
  refine (arity_1 _).mono ?_
  rintro e w' ⟨rfl, rfl⟩
  go_wp2_with fail
  go_ret
  exact ⟨rfl, hb⟩
theorem flat_local (a : Addr) (w : World) : Calls Try.prog 64 #[.pointer (some a), leafV 21 0, .int .i64 1] w fun e w' => e = .returned (.bool true) ∧ Below w.heap.size w w' := by
  unfold leafV
  have hb := box_leaf 21 0 w
  have gP := new_heap w (.cells #[.int .i64 21, .int .i64 0, .string ⟨#[]⟩, .slice none 0 0] 36)
  go_enter Try.func64, Try.ntmps64
  go_wp2_with fail
  refine (form_local _ _).mono ?_
  rintro e w2 ⟨rfl, hb2⟩
  have gP2 := (hb2.block _ (heap_lt gP)).trans gP
  obtain ⟨p0, p1, p2, p3⟩ := box_cells gP2
  have hbe := hb.trans (hb2.mono hb.size)
  go_wp2_with fail
  go_loop [18] (fun i => i = .int .i64 0) (fun _ => 0)
  case atStart => rfl
  case round =>
    subst hrel
    go_wp2_with fail
    go_ret
    exact ⟨rfl, hbe⟩
theorem flat_int (a : Addr) (w : World) : Calls Try.prog 64 #[.pointer (some a), leafV 2 1, .int .i64 1] w fun e w' => e = .returned (.bool true) ∧ Below w.heap.size w w' := by
  unfold leafV
  have hb := box_leaf 2 1 w
  have gP := new_heap w (.cells #[.int .i64 2, .int .i64 1, .string ⟨#[]⟩, .slice none 0 0] 36)
  go_enter Try.func64, Try.ntmps64
  go_wp2_with fail
  refine (form_int _ _).mono ?_
  rintro e w2 ⟨rfl, hb2⟩
  have gP2 := (hb2.block _ (heap_lt gP)).trans gP
  obtain ⟨p0, p1, p2, p3⟩ := box_cells gP2
  have hbe := hb.trans (hb2.mono hb.size)
  go_wp2_with fail
  go_loop [18] (fun i => i = .int .i64 0) (fun _ => 0)
  case atStart => rfl
  case round =>
    subst hrel
    go_wp2_with fail
    go_ret
    exact ⟨rfl, hbe⟩
set_option maxHeartbeats 1000000 in
set_option maxRecDepth 100000 in
theorem flat_node (a : Addr) (B : Nat) (w : World) (h : NodeAt w B) : Calls Try.prog 64 #[.pointer (some a), nodeV B, .int .i64 1] w fun e w' => e = .returned (.bool true) ∧ Below w.heap.size w w' := by
  unfold nodeV
  have hb := box_node B w
  have hN := h.below hb
  have gP := new_heap w (.cells #[.int .i64 12, .int .i64 1, .string ⟨#[]⟩, .slice (some ⟨B, 0, none⟩) 2 2] 36)
  go_enter Try.func64, Try.ntmps64
  go_wp2_with fail
  generalize w.alloc (.cells #[.int .i64 12, .int .i64 1, .string ⟨#[]⟩, .slice (some ⟨B, 0, none⟩) 2 2] 36) = W0 at *
  clear h
  refine (form_node _ _ _).mono ?_
  rintro e W ⟨rfl, hb2⟩
  have gP1 := (hb2.block _ (heap_lt gP)).trans gP
  have hN1 := hN.below hb2
  have hbW := hb.trans (hb2.mono hb.size)
  obtain ⟨p0, p1, p2, p3⟩ := box_cells gP1
  clear hN gP hb2 hb
  go_wp2_with fail
  clear p0 p1 p2 p3
  go_loopw [18] (fun i wr => (i = .int .i64 0 ∨ i = .int .i64 1 ∨ i = .int .i64 2) ∧ Below W.heap.size W wr) (fun i _ => 2 - (intOf i).toNat)
  case atStart => exact ⟨.inl rfl, Below.refl _ _⟩
  case round =>
    obtain ⟨hrel, hbr⟩ := hrel
    have hN2 := hN1.below hbr
    obtain ⟨c0, c1, c2, c3, c4, c5, c6, c7⟩ := hN2.cells
    have gP2 := (hbr.block _ (heap_lt gP1)).trans gP1
    rcases hrel with rfl | rfl | rfl
    · have ga := grown_alloc wr (.cells #[.int .i64 21, .int .i64 0, .string ⟨#[]⟩, .slice none 0 0] 36)
      have gP3 := (ga.block _ (heap_lt gP2) (by nofun)).trans gP2
      have gL3 := new_heap wr (.cells #[.int .i64 21, .int .i64 0, .string ⟨#[]⟩, .slice none 0 0] 36)
      obtain ⟨p0, p1, p2, p3⟩ := box_cells gP3
      obtain ⟨l0, l1, l2, l3⟩ := box_cells gL3
      go_wp2_with fail
      refine (binds_any _ _).mono ?_
      rintro e w' ⟨rfl, rfl⟩
      go_wp2_with fail
      refine (flat_local _ _).mono ?_
      rintro e w2 ⟨rfl, hb2⟩
      have hb3 := hbr.trans (((Below.refl _ _).alloc (Nat.le_refl _) _ |>.trans (hb2.mono (by simp))).mono hbr.size)
      clear hb2 c0 c1 c2 c3 c4 c5 c6 c7 hN2 p0 p1 p2 p3 l0 l1 l2 l3
      go_wp2_with fail
      go_round
      case rel => exact ⟨.inr (.inl rfl), hb3⟩
      case measure => simp [intOf]
    · have ga := grown_alloc wr (.cells #[.int .i64 2, .int .i64 1, .string ⟨#[]⟩, .slice none 0 0] 36)
      have gP3 := (ga.block _ (heap_lt gP2) (by nofun)).trans gP2
      have gL3 := new_heap wr (.cells #[.int .i64 2, .int .i64 1, .string ⟨#[]⟩, .slice none 0 0] 36)
      obtain ⟨p0, p1, p2, p3⟩ := box_cells gP3
      obtain ⟨l0, l1, l2, l3⟩ := box_cells gL3
      go_wp2_with fail
      refine (binds_any _ _).mono ?_
      rintro e w' ⟨rfl, rfl⟩
      go_wp2_with fail
      refine (flat_int _ _).mono ?_
      rintro e w2 ⟨rfl, hb2⟩
      have hb3 := hbr.trans (((Below.refl _ _).alloc (Nat.le_refl _) _ |>.trans (hb2.mono (by simp))).mono hbr.size)
      clear hb2 c0 c1 c2 c3 c4 c5 c6 c7 hN2 p0 p1 p2 p3 l0 l1 l2 l3
      go_wp2_with fail
      go_round
      case rel => exact ⟨.inr (.inr rfl), hb3⟩
      case measure => simp [intOf]
    · have hbe := hbW.trans (hbr.mono hbW.size)
      go_wp2_with fail
      go_ret
      exact ⟨rfl, hbe⟩
/-- The function of the example: no captures. -/
def flatV (B : Nat) : Value := .agg #[.int .i64 0, .int .i64 12, .int .i64 1, .string ⟨#[]⟩, .slice (some ⟨B, 0, none⟩) 2 2]
theorem flat_cells {w : World} {q : Nat} {x y z u v : Value} {t : TypeId} (h : w.heap[q]? = some (.cells #[x, y, z, u, v] t (0, 0))) : w.cell? ⟨q, 0, none⟩ = some x ∧ w.cell? ⟨q, 1, none⟩ = some y ∧ w.cell? ⟨q, 2, none⟩ = some z ∧ w.cell? ⟨q, 3, none⟩ = some u ∧ w.cell? ⟨q, 4, none⟩ = some v := by
  simp [World.cell?, h]
set_option maxHeartbeats 1000000 in
set_option maxRecDepth 100000 in
theorem cfunction_any (B : Nat) (F : Value) (w : World) (h : NodeAt w B) (hF : ∃ f a b, F = .func f a b) : Calls Try.prog 39 #[flatV B, F] w fun e w' => e = .returned (.bool true) ∧ Below w.heap.size w w' := by
  obtain ⟨f, fa, fb, rfl⟩ := hF
  unfold flatV
  have hb : Below w.heap.size w ((w.alloc (.cells #[.int .i64 0, .int .i64 12, .int .i64 1, .string ⟨#[]⟩, .slice (some ⟨B, 0, none⟩) 2 2] 38)).alloc (.cells #[.int .i64 0, .func f fa fb] 105)) := ((Below.refl _ _).alloc (Nat.le_refl _) _).alloc (by simp) _
  have gP : ((w.alloc (.cells #[.int .i64 0, .int .i64 12, .int .i64 1, .string ⟨#[]⟩, .slice (some ⟨B, 0, none⟩) 2 2] 38)).alloc (.cells #[.int .i64 0, .func f fa fb] 105)).heap[w.heap.size]? = some (.cells #[.int .i64 0, .int .i64 12, .int .i64 1, .string ⟨#[]⟩, .slice (some ⟨B, 0, none⟩) 2 2] 38 (0, 0)) := (Below.heap_alloc _ _ _ (by simp)).trans (new_heap w _)
  have hN := h.below hb
  go_enter Try.func39, Try.ntmps39
  go_wp2_with fail
  generalize ((w.alloc (.cells #[.int .i64 0, .int .i64 12, .int .i64 1, .string ⟨#[]⟩, .slice (some ⟨B, 0, none⟩) 2 2] 38)).alloc (.cells #[.int .i64 0, .func f fa fb] 105)) = W at *
  refine (cwithin_any _ _ _ _).mono ?_
  rintro e w' ⟨rfl, rfl⟩
  obtain ⟨p0, p1, p2, p3, p4⟩ := flat_cells gP
  have hin : inB 0 0 1000 = true := by decide
  rw [hin]
  go_wp2_with fail
  refine (large_node _ _ hN).mono ?_
  rintro e w2 ⟨rfl, hb2⟩
  have gP2 := (hb2.block _ (heap_lt gP)).trans gP
  have hN2 := hN.below hb2
  have hbb := hb.trans (hb2.mono hb.size)
  clear p0 p1 p2 p3 p4
  obtain ⟨p0, p1, p2, p3, p4⟩ := flat_cells gP2
  go_wp2_with fail
  refine (flat_node _ _ _ hN2).mono ?_
  rintro e w3 ⟨rfl, hb3⟩
  have hbe := hbb.trans (hb3.mono hbb.size)
  go_wp2_with fail
  go_ret
  exact ⟨rfl, hbe⟩
set_option maxHeartbeats 1000000 in
set_option maxRecDepth 100000 in
theorem cLocals_any (B : Nat) (w : World) (h : NodeAt w B) : Calls Try.prog 32 #[flatV B] w fun e w' => e = .returned (.tuple #[.int .i64 1, .int .i64 0]) ∧ Below w.heap.size w w' := by
  unfold flatV
  have hmm := @run_makeMap Try.prog
  have g1 := grown_alloc w (.cells #[.int .i64 0, .int .i64 12, .int .i64 1, .string ⟨#[]⟩, .slice (some ⟨B, 0, none⟩) 2 2] 38)
  have gF := new_heap w (.cells #[.int .i64 0, .int .i64 12, .int .i64 1, .string ⟨#[]⟩, .slice (some ⟨B, 0, none⟩) 2 2] 38)
  have hN := h.below (grown_under g1 (Nat.le_refl _) (by nofun))
  have hb1 := grown_under g1 (Nat.le_refl _) (by nofun)
  clear g1
  go_enter Try.func32, Try.ntmps32
  go_upto_region 1 with fail
  generalize w.alloc (.cells #[.int .i64 0, .int .i64 12, .int .i64 1, .string ⟨#[]⟩, .slice (some ⟨B, 0, none⟩) 2 2] 38) = W at *
  have g2 := grown_alloc W (.map #[] 0)
  have g3 := grown_alloc (W.alloc (.map #[] 0)) (.cells #[.map (some W.heap.size)] 98)
  have hltF := heap_lt gF
  have gF3 := (g3.block _ (by simp; omega) (by nofun)).trans ((g2.block _ hltF (by nofun)).trans gF)
  have hN3 := (hN.below (grown_under g2 (Nat.le_refl _) (by nofun))).below (grown_under g3 (Nat.le_refl _) (by nofun))
  have hb3 := (hb1.trans ((grown_under (B := w.heap.size) g2 (by omega) (by nofun)))).trans (grown_under (B := w.heap.size) g3 (by simp; omega) (by nofun))
  clear g2 g3
  obtain ⟨p0, p1, p2, p3, p4⟩ := flat_cells gF3
  go_wp2_with fail
  refine (cfunction_any _ _ _ hN3 ⟨_, _, _, rfl⟩).mono ?_
  rintro e w4 ⟨rfl, hb4⟩
  have gF4 := (hb4.block _ (heap_lt gF3)).trans gF3
  have hN4 := hN3.below hb4
  have hb5 := hb3.trans (hb4.mono hb3.size)
  clear p0 p1 p2 p3 p4
  obtain ⟨p0, p1, p2, p3, p4⟩ := flat_cells gF4
  go_wp2_with fail
  refine (locals_node _ _ hN4).mono ?_
  rintro e w5 ⟨rfl, hb6⟩
  have hbe := hb5.trans (hb6.mono hb5.size)
  go_wp2_with fail
  go_ret2
  exact ⟨rfl, hbe⟩
end Go.Proofs.Ytidolpcbbbakmaa
