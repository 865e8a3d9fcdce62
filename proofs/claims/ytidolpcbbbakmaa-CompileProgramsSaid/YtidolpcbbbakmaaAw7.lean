/- The example of law 47: compile.Fun as a whole. -/
import Derived.Test.YtidolpcbbbakmaaAw6
namespace Go.Proofs.Ytidolpcbbbakmaa
open Go Go.RowKit

theorem results_cell_tmp2 {fn : Func} {p u v : Tmp} {ty : TypeId} (h : fn.results = #[.cell p ty, .tmp u, .tmp v]) (tmps : Array Value) (P : Program) (w : World) :
    (results fn tmps).run P w =
      ((asAddr (tmps.getD p undef)).run P w).andThen fun a w₁ => ((loadVar ty a).run P w₁).andThen fun x w₂ => .ok (.tuple #[x, tmps.getD u undef, tmps.getD v undef]) w₂ := by
  simp only [results, h]
  simp [Sem.run_bind, Result.andThen]
/-- What Fun answers at the example. -/
def FunOk (w : World) (e : Ending) (w' : World) : Prop := ∃ ca cc, e = .returned (.tuple #[.agg #[.int .i64 0, .int .i64 1, .int .i64 2, .slice ca 4 cc], .slice none 0 0, .int .i64 0]) ∧ Below w.heap.size w w'
set_option maxHeartbeats 2000000 in
set_option maxRecDepth 100000 in
theorem cFun_any (B0 : Nat) (w : World) (h : NodeAt w B0) : Calls Try.prog 14 #[flatV B0, .slice none 0 0] w (FunOk w) := by
  unfold flatV
  have hb : Below w.heap.size w ((w.alloc (.cells #[.int .i64 0, .int .i64 12, .int .i64 1, .string ⟨#[]⟩, .slice (some ⟨B0, 0, none⟩) 2 2] 38)).alloc (.cells #[.int .i64 0, .int .i64 0, .int .i64 0, .slice none 0 0] 45)) := ((Below.refl _ _).alloc (Nat.le_refl _) _).alloc (by simp) _
  have gP : ((w.alloc (.cells #[.int .i64 0, .int .i64 12, .int .i64 1, .string ⟨#[]⟩, .slice (some ⟨B0, 0, none⟩) 2 2] 38)).alloc (.cells #[.int .i64 0, .int .i64 0, .int .i64 0, .slice none 0 0] 45)).heap[w.heap.size]? = some (.cells #[.int .i64 0, .int .i64 12, .int .i64 1, .string ⟨#[]⟩, .slice (some ⟨B0, 0, none⟩) 2 2] 38 (0, 0)) := (Below.heap_alloc _ _ _ (by simp)).trans (new_heap w _)
  have gR : ((w.alloc (.cells #[.int .i64 0, .int .i64 12, .int .i64 1, .string ⟨#[]⟩, .slice (some ⟨B0, 0, none⟩) 2 2] 38)).alloc (.cells #[.int .i64 0, .int .i64 0, .int .i64 0, .slice none 0 0] 45)).heap[w.heap.size + 1]? = some (.cells #[.int .i64 0, .int .i64 0, .int .i64 0, .slice none 0 0] 45 (0, 0)) := (congrArg _ (by simp)).trans (new_heap (w.alloc _) _)
  have hN := h.below hb
  clear h
  go_enter Try.func14, Try.ntmps14
  go_upto_region 1 with fail
  generalize ((w.alloc (.cells #[.int .i64 0, .int .i64 12, .int .i64 1, .string ⟨#[]⟩, .slice (some ⟨B0, 0, none⟩) 2 2] 38)).alloc (.cells #[.int .i64 0, .int .i64 0, .int .i64 0, .slice none 0 0] 45)) = W at *
  obtain ⟨p0, p1, p2, p3, p4⟩ := flat_cells gP
  go_wp2_with fail
  refine (cLocals_any B0 _ hN).mono ?_
  rintro e w2 ⟨rfl, hb2⟩
  have gP2 := (hb2.block _ (heap_lt gP)).trans gP
  have gR2 := (hb2.block _ (heap_lt gR)).trans gR
  have hN2 := hN.below hb2
  have hbb := hb.trans (hb2.mono hb.size)
  clear gP gR hN hb hb2 p0 p1 p2 p3 p4
  obtain ⟨p0, p1, p2, p3, p4⟩ := flat_cells gP2
  have hg3 := grown_alloc w2 (.cells #[.int .i64 12, .int .i64 1, .string ⟨#[]⟩, .slice (some ⟨B0, 0, none⟩) 2 2] 36)
  have gX := new_heap w2 (.cells #[.int .i64 12, .int .i64 1, .string ⟨#[]⟩, .slice (some ⟨B0, 0, none⟩) 2 2] 36)
  have gP3 := (hg3.block _ (heap_lt gP2) (by nofun)).trans gP2
  have gR3 := (hg3.block _ (heap_lt gR2) (by nofun)).trans gR2
  have hN3 := hN2.below (grown_under hg3 (Nat.le_refl _) (by nofun))
  have hb3 := hbb.trans (grown_under (B := w.heap.size) hg3 hbb.size (by nofun))
  clear hg3
  have HW := Lib.hid (with_any B0 _ _ hN3 gX)
  go_wp2_with fail
  refine HW.out.mono ?_
  rintro e w4 ⟨rfl, hb4⟩
  have gP4 := (hb4.block _ (heap_lt gP3)).trans gP3
  have gR4 := (hb4.block _ (heap_lt gR3)).trans gR3
  have hN4 := hN3.below hb4
  have hbd := hb3.trans (hb4.mono hb3.size)
  clear hb4 hb3 gP3 gR3 hN3 hbb hN2 gX gR2 gP2 HW p0 p1 p2 p3 p4
  obtain ⟨p0, p1, p2, p3, p4⟩ := flat_cells gP4
  have HF := Lib.hid (cfun_any B0 w4 hN4)
  go_wp2_with fail
  refine HF.out.mono ?_
  rintro e w5 ⟨ca, cc, rfl, hb5⟩
  have gR5 := (hb5.block _ (heap_lt gR4)).trans gR4
  have hbe := hbd.trans (hb5.mono hbd.size)
  clear hb5 gP4 gR4 hN4 hbd HF p0 p1 p2 p3 p4
  go_upto_region 10 with fail
  have hg6 := grown_alloc w5 (.cells #[.int .i64 0, .int .i64 1, .int .i64 2, .slice ca 4 cc] 45)
  have gX6 := new_heap w5 (.cells #[.int .i64 0, .int .i64 1, .int .i64 2, .slice ca 4 cc] 45)
  have gR6 := (hg6.block _ (heap_lt gR5) (by nofun)).trans gR5
  have hb6 := hbe.trans (grown_under (B := w.heap.size) hg6 hbe.size (by nofun))
  clear hg6 hbe gR5
  generalize (w5.alloc (.cells #[.int .i64 0, .int .i64 1, .int .i64 2, .slice ca 4 cc] 45)) = w6 at *
  obtain ⟨p0, p1, p2, p3⟩ := fun_cells gX6
  obtain ⟨q0, q1, q2, q3⟩ := fun_cells gR6
  have hfz0 : w6.frozen? ⟨w.heap.size + 1, 0, none⟩ = false := Lib.frozen_of_heap gR6 0
  have hfz1 : w6.frozen? ⟨w.heap.size + 1, 1, none⟩ = false := Lib.frozen_of_heap gR6 1
  have hfz2 : w6.frozen? ⟨w.heap.size + 1, 2, none⟩ = false := Lib.frozen_of_heap gR6 2
  have hfz3 : w6.frozen? ⟨w.heap.size + 1, 3, none⟩ = false := Lib.frozen_of_heap gR6 3
  obtain ⟨gr, hgr⟩ := set4 gR6 (.int .i64 0) (.int .i64 1) (.int .i64 2) (.slice ca 4 cc)
  have hbf := hb6.trans (grown_under (B := w.heap.size) hgr hb6.size (fun k hk => by cases hk; omega))
  have HG := Lib.hid gr
  clear hgr hb6 gr
  go_wp2_with fail
  have hg1 := HG.out
  refine bodyPost_ret (v := .tuple #[.agg #[.int .i64 0, .int .i64 1, .int .i64 2, .slice ca 4 cc], .slice none 0 0, .int .i64 0]) ?_ rfl ⟨ca, cc, rfl, hbf⟩
  rw [results_cell_tmp2 (p := 4) (u := 5) (v := 6) (ty := 45) rfl]
  simp [asAddr, run_loadVar_row _ _ _ _ _ _ _ hg1 Try.underlying45 rfl fun_info, Result.andThen]
end Go.Proofs.Ytidolpcbbbakmaa
