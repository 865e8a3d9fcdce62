/- The example of law 47: its code. -/
import Derived.Test.YtidolpcbbbakmaaAw4
namespace Go.Proofs.Ytidolpcbbbakmaa
open Go Go.RowKit

set_option maxHeartbeats 1000000 in
set_option maxRecDepth 100000 in
theorem all_any (wb mb B B0 : Nat) (cv : Value) (V : World) (h : WSt V wb mb B cv []) (hB : B ≤ V.heap.size) (hN : NodeAt V B0) (h0 : B0 < wb) :
    Calls Try.prog 70 #[.pointer (some ⟨wb, 0, none⟩), .slice (some ⟨B0, 0, none⟩) 2 2, .int .i64 1] V fun e V' => e = .returned (.tuple #[]) ∧ WrOk wb mb B cv [⟨3, 0, 0⟩, ⟨1, 1, 0⟩] V V' := by
  have H0 := Lib.hid h
  have HE0 := Lib.hid (Em.refl wb V cv.ownBlock)
  clear h
  go_enter Try.func70, Try.ntmps70
  go_wp2_with fail
  go_loopw [10] (fun i wr => ∃ (k : Nat) (cv' : Value), i = .int .i64 k ∧ k ≤ 2 ∧ Hid (WSt wr wb mb B cv' ([(⟨3, 0, 0⟩ : Ins), ⟨1, 1, 0⟩].take k)) ∧ Hid (Em wb V wr cv.ownBlock cv'.ownBlock)) (fun i _ => 2 - (intOf i).toNat)
  case atStart => exact ⟨0, cv, rfl, by decide, H0, HE0⟩
  case round =>
    obtain ⟨k, cv', rfl, hk, HW, HE⟩ := hrel
    have hsz := HE.out.size
    have hc := owns_lt H0.out.own
    have hlt0 := heap_lt hN
    have hN2 : NodeAt wr B0 := (HE.out.kept B0 hlt0 (by omega) (fun e => by have := (hc B0 e).1; have := H0.out.lt; omega)).trans hN
    obtain ⟨c0, c1, c2, c3, c4, c5, c6, c7⟩ := hN2.cells
    rcases (by omega : k = 0 ∨ k = 1 ∨ k = 2) with rfl | rfl | rfl
    · have gL3 := new_heap wr (.cells #[.int .i64 21, .int .i64 0, .string ⟨#[]⟩, .slice none 0 0] 36)
      obtain ⟨l0, l1, l2, l3⟩ := box_cells gL3
      have hg := grown_alloc wr (.cells #[.int .i64 21, .int .i64 0, .string ⟨#[]⟩, .slice none 0 0] 36)
      have hW2 := HW.out.free hg
      have hE2 := HE.out.trans (Em.free (wb := wb) (r := cv'.ownBlock) hg)
      have hX := Lib.hid (exp_local wb mb B cv' [] _ hW2 (by simp; omega) (by simp))
      clear hW2 gL3 hg
      go_wp2_with fail
      refine hX.out.mono ?_
      rintro e w2 ⟨rfl, cv2, hW3, hE3⟩
      have HW3 := Lib.hid hW3
      have HE3 := Lib.hid (hE2.trans hE3)
      clear hE2 hW3 hE3 hX c0 c1 c2 c3 c4 c5 c6 c7 hN2 l0 l1 l2 l3
      go_wp2_with fail
      go_round
      case rel => exact ⟨0 + 1, cv2, rfl, by decide, HW3, HE3⟩
      case measure => simp [intOf]
    · have gL3 := new_heap wr (.cells #[.int .i64 2, .int .i64 1, .string ⟨#[]⟩, .slice none 0 0] 36)
      obtain ⟨l0, l1, l2, l3⟩ := box_cells gL3
      have hg := grown_alloc wr (.cells #[.int .i64 2, .int .i64 1, .string ⟨#[]⟩, .slice none 0 0] 36)
      have hW2 := HW.out.free hg
      have hE2 := HE.out.trans (Em.free (wb := wb) (r := cv'.ownBlock) hg)
      have hX := Lib.hid (exp_int wb mb B cv' [⟨3, 0, 0⟩] _ hW2 (by simp; omega) (by simp))
      clear hW2 gL3 hg
      go_wp2_with fail
      refine hX.out.mono ?_
      rintro e w2 ⟨rfl, cv2, hW3, hE3⟩
      have HW3 := Lib.hid hW3
      have HE3 := Lib.hid (hE2.trans hE3)
      clear hE2 hW3 hE3 hX c0 c1 c2 c3 c4 c5 c6 c7 hN2 l0 l1 l2 l3
      go_wp2_with fail
      go_round
      case rel => exact ⟨1 + 1, cv2, rfl, by decide, HW3, HE3⟩
      case measure => simp [intOf]
    · go_wp2_with fail
      go_end0
      exact ⟨rfl, cv', HW.out, HE.out⟩
set_option maxHeartbeats 1000000 in
set_option maxRecDepth 100000 in
theorem exp_node (wb mb B B0 : Nat) (cv : Value) (V : World) (h : WSt V wb mb B cv []) (hB : B ≤ V.heap.size) (hN : NodeAt V B0) (h0 : B0 < wb) :
    Calls Try.prog 45 #[.pointer (some ⟨wb, 0, none⟩), nodeV B0, .int .i64 1] V fun e V' => e = .returned (.tuple #[]) ∧ WrOk wb mb B cv [⟨3, 0, 0⟩, ⟨1, 1, 0⟩, ⟨15, 1, 0⟩] V V' := by
  unfold nodeV
  have hg := grown_alloc V (.cells #[.int .i64 12, .int .i64 1, .string ⟨#[]⟩, .slice (some ⟨B0, 0, none⟩) 2 2] 36)
  have gP := new_heap V (.cells #[.int .i64 12, .int .i64 1, .string ⟨#[]⟩, .slice (some ⟨B0, 0, none⟩) 2 2] 36)
  have h2 := h.free hg
  have hE1 := Em.free (wb := wb) (r := cv.ownBlock) hg
  have hN2 := hN.below (box_node B0 V)
  have hB2 : B ≤ (V.alloc (.cells #[.int .i64 12, .int .i64 1, .string ⟨#[]⟩, .slice (some ⟨B0, 0, none⟩) 2 2] 36)).heap.size := by simp; omega
  have hc := owns_lt h.own
  have hwlt := heap_lt h.blk
  have HX := Lib.hid (all_any wb mb B B0 cv _ h2 hB2 hN2 h0)
  have hlt := heap_lt gP
  clear hg
  go_enter Try.func45, Try.ntmps45
  go_wp2_with fail
  refine HX.out.mono ?_
  rintro e V2 ⟨rfl, cv2, hW2, hE2⟩
  have gP2 := (hE2.kept V.heap.size hlt (by omega) (fun e => by have := (hc _ e).2; omega)).trans gP
  obtain ⟨p0, p1, p2, p3⟩ := box_cells gP2
  have hsz := hE2.size
  have HM := Lib.hid (emit_any wb mb B cv2 _ 15 1 0 V2 hW2 (by omega) (by simp))
  have HE := Lib.hid (hE1.trans hE2)
  clear hE1 hE2 hW2 gP gP2 HX hN2 h2
  go_wp2_with fail
  refine HM.out.mono ?_
  rintro e V3 ⟨⟨r, rfl⟩, cv3, hW3, hE3⟩
  have HR : Hid (WrOk wb mb B cv [⟨3, 0, 0⟩, ⟨1, 1, 0⟩, ⟨15, 1, 0⟩] V V3) := ⟨cv3, hW3, HE.out.trans hE3⟩
  clear hW3 hE3
  go_wp2_with fail
  go_end0
  exact ⟨rfl, HR.out⟩
/-- The code of the example. -/
def exCode : List Ins := [⟨3, 0, 0⟩, ⟨1, 1, 0⟩, ⟨15, 1, 0⟩, ⟨9, 0, 0⟩]
theorem ex_reach : Reach exCode 0 0 ∧ Reach exCode 1 1 ∧ Reach exCode 2 2 ∧ Reach exCode 3 1 := by
  have r0 : Reach exCode 0 0 := .start
  have r1 : Reach exCode 1 1 := Reach.step (t := 1) r0 (by unfold OkAt; decide) (by decide)
  have r2 : Reach exCode 2 2 := Reach.step (t := 2) r1 (by unfold OkAt; decide) (by decide)
  have r3 : Reach exCode 3 1 := Reach.step (t := 3) r2 (by unfold OkAt; decide) (by decide)
  exact ⟨r0, r1, r2, r3⟩
theorem ex_depth : DepOk exCode 2 0 := by
  obtain ⟨r0, r1, r2, r3⟩ := ex_reach
  have hI : Inv exCode [0, 1, 2, 1] [] 2 none 0 := by
    refine ⟨rfl, rfl, fun a ha hne => ?_, fun t ht => (by cases ht), fun a ha hne _ _ => ?_, by decide, .inr ⟨2, 2, r2, .inl rfl⟩, fun c hc => (by cases hc)⟩
    · have ha' : a < 4 := ha
      rcases (by omega : a = 0 ∨ a = 1 ∨ a = 2 ∨ a = 3) with rfl | rfl | rfl | rfl
      · exact ⟨by decide, r0, by decide⟩
      · exact ⟨by decide, r1, by decide⟩
      · exact ⟨by decide, r2, by decide⟩
      · exact ⟨by decide, r3, by decide⟩
    · have ha' : a < 4 := ha
      rcases (by omega : a = 0 ∨ a = 1 ∨ a = 2 ∨ a = 3) with rfl | rfl | rfl | rfl <;> (unfold OkAt; decide)
  exact hI.end (by decide)
end Go.Proofs.Ytidolpcbbbakmaa
