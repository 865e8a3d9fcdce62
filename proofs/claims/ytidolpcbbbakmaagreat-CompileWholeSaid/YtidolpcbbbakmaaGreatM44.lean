/- The example of law 47: awake. -/
import Derived.Test.YtidolpcbbbakmaaGreatM38
namespace Go.Proofs.YtidolpcbbbakmaaGreat
open Go Go.RowKit

set_option maxHeartbeats 2000000 in
set_option maxRecDepth 100000 in
theorem awake47_any (w : World) : Calls Tryz.prog 4 #[] w fun e w' => e = .returned (.bool true) ∧ Below w.heap.size w w' := by
  have hb : Below w.heap.size w ((w.alloc (.cells #[.int .i64 21, .int .i64 0, .string ⟨#[]⟩, .slice none 0 0, .int .i64 2, .int .i64 1, .string ⟨#[]⟩, .slice none 0 0] 29)).alloc (.cells #[.int .i64 0, .int .i64 12, .int .i64 1, .string ⟨#[]⟩, .slice (some ⟨w.heap.size, 0, none⟩) 2 2] 31)) := ((Below.refl _ _).alloc (Nat.le_refl _) _).alloc (by simp) _
  have hN : NodeAt ((w.alloc (.cells #[.int .i64 21, .int .i64 0, .string ⟨#[]⟩, .slice none 0 0, .int .i64 2, .int .i64 1, .string ⟨#[]⟩, .slice none 0 0] 29)).alloc (.cells #[.int .i64 0, .int .i64 12, .int .i64 1, .string ⟨#[]⟩, .slice (some ⟨w.heap.size, 0, none⟩) 2 2] 31)) w.heap.size := (Below.heap_alloc _ _ _ (by simp)).trans (new_heap w _)
  have gP : ((w.alloc (.cells #[.int .i64 21, .int .i64 0, .string ⟨#[]⟩, .slice none 0 0, .int .i64 2, .int .i64 1, .string ⟨#[]⟩, .slice none 0 0] 29)).alloc (.cells #[.int .i64 0, .int .i64 12, .int .i64 1, .string ⟨#[]⟩, .slice (some ⟨w.heap.size, 0, none⟩) 2 2] 31)).heap[w.heap.size + 1]? = some (.cells #[.int .i64 0, .int .i64 12, .int .i64 1, .string ⟨#[]⟩, .slice (some ⟨w.heap.size, 0, none⟩) 2 2] 31 (0, 0)) := (congrArg _ (by simp)).trans (new_heap (w.alloc _) _)
  go_enter Tryz.func4, Tryz.ntmps4
  go_upto_region 2 with fail
  generalize ((w.alloc (.cells #[.int .i64 21, .int .i64 0, .string ⟨#[]⟩, .slice none 0 0, .int .i64 2, .int .i64 1, .string ⟨#[]⟩, .slice none 0 0] 29)).alloc (.cells #[.int .i64 0, .int .i64 12, .int .i64 1, .string ⟨#[]⟩, .slice (some ⟨w.heap.size, 0, none⟩) 2 2] 31)) = W at *
  obtain ⟨p0, p1, p2, p3, p4⟩ := flat_cells gP
  have HF := Lib.hid (cFun_any _ W hN)
  clear hN gP
  go_wp2_with fail
  refine HF.out.mono ?_
  rintro e w2 ⟨ca, cc, rfl, hb2⟩
  have hbb := hb.trans (hb2.mono hb.size)
  clear hb hb2 p0 p1 p2 p3 p4
  have hg3 := grown_alloc w2 (.cells #[.int .i64 0, .int .i64 1, .int .i64 2, .slice ca 4 cc] 43)
  have gX := new_heap w2 (.cells #[.int .i64 0, .int .i64 1, .int .i64 2, .slice ca 4 cc] 43)
  have hb3 := hbb.trans (grown_under (B := w.heap.size) hg3 hbb.size (by nofun))
  clear hg3 hbb
  go_upto_region 3 with fail
  generalize (w2.alloc (.cells #[.int .i64 0, .int .i64 1, .int .i64 2, .slice ca 4 cc] 43)) = w3 at *
  have hg4 := grown_alloc w3 (.cells #[.int .i64 3, .int .i64 0, .int .i64 0, .int .i64 1, .int .i64 1, .int .i64 0, .int .i64 15, .int .i64 1, .int .i64 0, .int .i64 9, .int .i64 0, .int .i64 0] 57)
  have gI := new_heap w3 (.cells #[.int .i64 3, .int .i64 0, .int .i64 0, .int .i64 1, .int .i64 1, .int .i64 0, .int .i64 15, .int .i64 1, .int .i64 0, .int .i64 9, .int .i64 0, .int .i64 0] 57)
  have gX4 := (hg4.block _ (heap_lt gX) (by nofun)).trans gX
  have hb4 := hb3.trans (grown_under (B := w.heap.size) hg4 hb3.size (by nofun))
  have hI : IsCode (w3.alloc (.cells #[.int .i64 3, .int .i64 0, .int .i64 0, .int .i64 1, .int .i64 1, .int .i64 0, .int .i64 15, .int .i64 1, .int .i64 0, .int .i64 9, .int .i64 0, .int .i64 0] 57)) (.slice (some ⟨w3.heap.size, 0, none⟩) 4 4) exCode := ⟨some ⟨w3.heap.size, 0, none⟩, 4, rfl, Nat.le_refl _, fun _ => ⟨w3.heap.size, 0, rfl, by simp, fun j hj => by
    rw [Nat.zero_add, cell_new]
    have hj' : j < 12 := hj
    rcases (by omega : j = 0 ∨ j = 1 ∨ j = 2 ∨ j = 3 ∨ j = 4 ∨ j = 5 ∨ j = 6 ∨ j = 7 ∨ j = 8 ∨ j = 9 ∨ j = 10 ∨ j = 11) with rfl | rfl | rfl | rfl | rfl | rfl | rfl | rfl | rfl | rfl | rfl | rfl <;> rfl⟩⟩
  have HD := Lib.hid (depth_any _ _ _ hI (by decide))
  clear hg4 hb3 gX gI hI
  go_wp2_with fail
  refine HD.out.mono ?_
  rintro e w5 ⟨r, er, rfl, hdep, hb5⟩
  obtain ⟨rfl, rfl⟩ := dep_one _ _ _ _ _ hdep ex_depth
  have gX5 := (hb5.block _ (heap_lt gX4)).trans gX4
  have hbe := hb4.trans (hb5.mono hb4.size)
  obtain ⟨q0, q1, q2, q3⟩ := fun_cells gX5
  clear hb5 hb4 gX4 HD
  go_wp2_with fail
  go_ret
  exact ⟨rfl, hbe⟩
end Go.Proofs.YtidolpcbbbakmaaGreat
