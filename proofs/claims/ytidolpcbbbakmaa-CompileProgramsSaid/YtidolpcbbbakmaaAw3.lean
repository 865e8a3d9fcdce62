/- The example of law 47: no texts. -/
import Derived.Test.YtidolpcbbbakmaaAw2
import Derived.Laws.AppendOwnNone
import Derived.Lib.SliceRun
namespace Go.Proofs.Ytidolpcbbbakmaa
open Go Go.RowKit

set_option maxRecDepth 100000 in
theorem strings_local (w : World) : Calls Try.prog 41 #[.slice none 0 0, leafV 21 0] w fun e w' => e = .returned (.slice none 0 0) ∧ Below w.heap.size w w' := by
  unfold leafV
  have hb := box_leaf 21 0 w
  go_enter Try.func41, Try.ntmps41
  go_wp2_with fail
  go_loop [0, 18] (fun l i => l = .slice none 0 0 ∧ i = .int .i64 0) (fun _ _ => 0)
  case atStart => exact ⟨rfl, rfl⟩
  case round =>
    obtain ⟨rfl, rfl⟩ := hrel
    go_wp2_with fail
    go_ret
    exact ⟨rfl, hb⟩
set_option maxRecDepth 100000 in
theorem strings_int (w : World) : Calls Try.prog 41 #[.slice none 0 0, leafV 2 1] w fun e w' => e = .returned (.slice none 0 0) ∧ Below w.heap.size w w' := by
  unfold leafV
  have hb := box_leaf 2 1 w
  go_enter Try.func41, Try.ntmps41
  go_wp2_with fail
  go_loop [0, 18] (fun l i => l = .slice none 0 0 ∧ i = .int .i64 0) (fun _ _ => 0)
  case atStart => exact ⟨rfl, rfl⟩
  case round =>
    obtain ⟨rfl, rfl⟩ := hrel
    go_wp2_with fail
    go_ret
    exact ⟨rfl, hb⟩
set_option maxHeartbeats 1000000 in
set_option maxRecDepth 100000 in
theorem strings_node (B : Nat) (w : World) (h : NodeAt w B) : Calls Try.prog 41 #[.slice none 0 0, nodeV B] w fun e w' => e = .returned (.slice none 0 0) ∧ Below w.heap.size w w' := by
  unfold nodeV
  have hb := box_node B w
  have hN := h.below hb
  go_enter Try.func41, Try.ntmps41
  go_wp2_with fail
  generalize w.alloc (.cells #[.int .i64 12, .int .i64 1, .string ⟨#[]⟩, .slice (some ⟨B, 0, none⟩) 2 2] 36) = W at *
  clear h
  go_loopw [0, 18] (fun l i wr => (i = .int .i64 0 ∨ i = .int .i64 1 ∨ i = .int .i64 2) ∧ l = .slice none 0 0 ∧ Below W.heap.size W wr) (fun _ i _ => 2 - (intOf i).toNat)
  case atStart => exact ⟨.inl rfl, rfl, Below.refl _ _⟩
  case round =>
    obtain ⟨hrel, rfl, hbr⟩ := hrel
    have hN2 := hN.below hbr
    obtain ⟨c0, c1, c2, c3, c4, c5, c6, c7⟩ := hN2.cells
    rcases hrel with rfl | rfl | rfl
    · have gL3 := new_heap wr (.cells #[.int .i64 21, .int .i64 0, .string ⟨#[]⟩, .slice none 0 0] 36)
      obtain ⟨l0, l1, l2, l3⟩ := box_cells gL3
      go_wp2_with fail
      refine (strings_local _).mono ?_
      rintro e w2 ⟨rfl, hb2⟩
      have hb3 := hbr.trans (((Below.refl _ _).alloc (Nat.le_refl _) _ |>.trans (hb2.mono (by simp))).mono hbr.size)
      clear hb2 c0 c1 c2 c3 c4 c5 c6 c7 hN2 l0 l1 l2 l3
      go_wp2_with fail
      go_roundw
      case rel => exact ⟨.inr (.inl rfl), rfl, hb3⟩
      case measure => simp [intOf]
    · have gL3 := new_heap wr (.cells #[.int .i64 2, .int .i64 1, .string ⟨#[]⟩, .slice none 0 0] 36)
      obtain ⟨l0, l1, l2, l3⟩ := box_cells gL3
      go_wp2_with fail
      refine (strings_int _).mono ?_
      rintro e w2 ⟨rfl, hb2⟩
      have hb3 := hbr.trans (((Below.refl _ _).alloc (Nat.le_refl _) _ |>.trans (hb2.mono (by simp))).mono hbr.size)
      clear hb2 c0 c1 c2 c3 c4 c5 c6 c7 hN2 l0 l1 l2 l3
      go_wp2_with fail
      go_roundw
      case rel => exact ⟨.inr (.inr rfl), rfl, hb3⟩
      case measure => simp [intOf]
    · have hbe := hb.trans (hbr.mono hb.size)
      go_wp2_with fail
      go_ret
      exact ⟨rfl, hbe⟩
theorem grow_0 (w : World) : Calls Try.prog 65 #[.slice none 0 0, .int .i64 0] w fun e w' => e = .returned (.slice none 0 0) ∧ w = w' := by
  go_enter Try.func65, Try.ntmps65
  go_wp2_with fail
  go_ret
  exact ⟨rfl, rfl⟩
theorem clone_0 (w : World) : Calls Try.prog 44 #[.slice none 0 0] w fun e w' => e = .returned (.slice none 0 0) ∧ w = w' := by
  have q47 : ∀ (w : World) (a : Option Addr) (n c n' c' : Nat), (binOp .eql 26 (.slice a n c) (.slice none n' c')).run Try.prog w = .ok (.bool a.isNone) w := fun w a n c n' c' => Lib.run_eql_slice_nil w _ _ a n c n' c' Try.underlying26
  go_enter Try.func44, Try.ntmps44
  go_wp2_with fail
  go_ret
  exact ⟨rfl, rfl⟩
theorem info_str : (Try.prog.info? 9).map (fun i => (i.zero, i.size, i.bytes)) = some (some (.string ByteArray.empty), 1, 16) := by kernel_rfl
set_option maxHeartbeats 1000000 in
set_option maxRecDepth 100000 in
theorem concat_0 (g : Nat) (w : World) (h : w.heap[g]? = some (.cells #[.slice none 0 0, .slice none 0 0] 26 (0, 0))) : Calls Try.prog 42 #[.slice (some ⟨g, 0, none⟩) 2 2] w fun e w' => e = .returned (.slice none 0 0) ∧ w = w' := by
  have c0 : w.cell? ⟨g, 0, none⟩ = some (.slice none 0 0) := by simp [World.cell?, h]
  have c1 : w.cell? ⟨g, 1, none⟩ = some (.slice none 0 0) := by simp [World.cell?, h]
  clear h
  obtain ⟨is0, his, _, _, _⟩ := info_parts info_str
  go_enter Try.func42, Try.ntmps42
  go_wp2_with fail
  go_loop [3, 11] (fun n i => n = .int .i64 0 ∧ (i = .int .i64 0 ∨ i = .int .i64 1 ∨ i = .int .i64 2)) (fun _ i => 2 - (intOf i).toNat)
  case atStart => exact ⟨rfl, .inl rfl⟩
  case round =>
    obtain ⟨rfl, hrel⟩ := hrel
    rcases hrel with rfl | rfl | rfl
    · go_wp2_with fail
      go_round
      case rel => exact ⟨rfl, .inr (.inl rfl)⟩
      case measure => simp [intOf]
    · go_wp2_with fail
      go_round
      case rel => exact ⟨rfl, .inr (.inr rfl)⟩
      case measure => simp [intOf]
    · go_wp2_with fail
      refine (grow_0 _).mono ?_
      rintro e w' ⟨rfl, rfl⟩
      go_wp2_with fail
      go_loop [6, 27] (fun v i => v = .slice none 0 0 ∧ (i = .int .i64 0 ∨ i = .int .i64 1 ∨ i = .int .i64 2)) (fun _ i => 2 - (intOf i).toNat)
      case atStart => exact ⟨rfl, .inl rfl⟩
      case round =>
        obtain ⟨rfl, hrel⟩ := hrel
        rcases hrel with rfl | rfl | rfl
        · go_wp2_with (at_builtin; refine wpList_append_own_none rfl _ _ 26 rfl 0 9 is0 1 Try.underlying26 his _ 0 [] rfl ⟨rfl, .inl ⟨rfl, rfl⟩⟩ rfl ?_)
          go_round
          case rel => exact ⟨rfl, .inr (.inl rfl)⟩
          case measure => simp [intOf]
        · go_wp2_with (at_builtin; refine wpList_append_own_none rfl _ _ 26 rfl 0 9 is0 1 Try.underlying26 his _ 0 [] rfl ⟨rfl, .inl ⟨rfl, rfl⟩⟩ rfl ?_)
          go_round
          case rel => exact ⟨rfl, .inr (.inr rfl)⟩
          case measure => simp [intOf]
        · go_wp2_with fail
          go_ret
          exact ⟨rfl, rfl⟩
set_option maxHeartbeats 1000000 in
set_option maxRecDepth 100000 in
theorem with_any (B b1 : Nat) (w : World) (h : NodeAt w B) (h1 : w.heap[b1]? = some (.cells #[.int .i64 12, .int .i64 1, .string ⟨#[]⟩, .slice (some ⟨B, 0, none⟩) 2 2] 36 (0, 0))) : Calls Try.prog 19 #[.slice none 0 0, .slice (some ⟨b1, 0, none⟩) 1 1] w fun e w' => e = .returned (.tuple #[.slice none 0 0, .int .i64 0]) ∧ Below w.heap.size w w' := by
  have hmm := @run_makeMap Try.prog
  go_enter Try.func19, Try.ntmps19
  go_wp2_with fail
  go_loopw [6, 21] (fun l i wr => (i = .int .i64 0 ∨ i = .int .i64 1) ∧ l = .slice none 0 0 ∧ Below w.heap.size w wr) (fun _ i _ => 1 - (intOf i).toNat)
  case atStart => exact ⟨.inl rfl, rfl, Below.refl _ _⟩
  case round =>
    obtain ⟨hrel, rfl, hbr⟩ := hrel
    rcases hrel with rfl | rfl
    · have hN2 := h.below hbr
      obtain ⟨c0, c1, c2, c3⟩ := box_cells ((hbr.block _ (heap_lt h1)).trans h1)
      have gL3 := new_heap wr (.cells #[.int .i64 12, .int .i64 1, .string ⟨#[]⟩, .slice (some ⟨B, 0, none⟩) 2 2] 36)
      obtain ⟨l0, l1, l2, l3⟩ := box_cells gL3
      have hN3 := hN2.below (box_node B wr)
      go_wp2_with fail
      refine (strings_node B _ hN3).mono ?_
      rintro e w2 ⟨rfl, hb2⟩
      have hb3 := hbr.trans (((Below.refl _ _).alloc (Nat.le_refl _) _ |>.trans (hb2.mono (by simp))).mono hbr.size)
      clear hb2 c0 c1 c2 c3 hN2 l0 l1 l2 l3 hN3 gL3
      go_wp2_with fail
      go_roundw
      case rel => exact ⟨.inr rfl, rfl, hb3⟩
      case measure => simp [intOf]
    · have hbA := hbr.alloc (o := .cells #[.slice none 0 0, .slice none 0 0] 26) hbr.size
      have gA := new_heap wr (.cells #[.slice none 0 0, .slice none 0 0] 26)
      have HC := Lib.hid (concat_0 _ _ gA)
      clear gA h h1
      go_wp2_with fail
      refine HC.out.mono ?_
      rintro e w' ⟨rfl, rfl⟩
      go_wp2_with fail
      go_loop [34] (fun i => i = .int .i64 0) (fun _ => 0)
      case atStart => rfl
      case round =>
        subst hrel
        go_wp2_with fail
        refine (clone_0 _).mono ?_
        rintro e w' ⟨rfl, rfl⟩
        have hbB := hbA.alloc (o := .map #[] 0) hbA.size
        go_wp2_with fail
        go_loop [51] (fun i => i = .int .i64 0) (fun _ => 0)
        case atStart => rfl
        case round =>
          subst hrel
          go_wp2_with fail
          go_loop [13, 60] (fun o i => o = .slice none 0 0 ∧ i = .int .i64 0) (fun _ _ => 0)
          case atStart => exact ⟨rfl, rfl⟩
          case round =>
            obtain ⟨rfl, rfl⟩ := hrel
            go_wp2_with fail
            go_ret2
            exact ⟨rfl, hbB⟩
end Go.Proofs.Ytidolpcbbbakmaa
