/- The example of law 47: compile.Fun. -/
import Derived.Test.YtidolpcbbbakmaaAw5
namespace Go.Proofs.Ytidolpcbbbakmaa
open Go Go.RowKit

theorem fun_info : (Try.prog.info? 45).map (·.size) = some 4 := by kernel_rfl
theorem set4 {V : World} {R : Nat} {x y z u : Value} (h : V.heap[R]? = some (.cells #[x, y, z, u] 45 (0, 0))) (a b c d : Value) : ((((V.setCell ⟨R, 0, none⟩ a).setCell ⟨R, 1, none⟩ b).setCell ⟨R, 2, none⟩ c).setCell ⟨R, 3, none⟩ d).heap[R]? = some (.cells #[a, b, c, d] 45 (0, 0)) ∧ V.grownBy ((((V.setCell ⟨R, 0, none⟩ a).setCell ⟨R, 1, none⟩ b).setCell ⟨R, 2, none⟩ c).setCell ⟨R, 3, none⟩ d) (some R) :=
  ⟨heap_set_same (heap_set_same (heap_set_same (heap_set_same h _) _) _) _, grown_both (grown_both (grown_both (grown_set V R 0 a) (grown_set _ R 1 b)) (grown_set _ R 2 c)) (grown_set _ R 3 d)⟩
/-- What function answers at the example: no captures, one local variable, the code. -/
def FnOk (w : World) (e : Ending) (w' : World) : Prop := ∃ ca cc, e = .returned (.tuple #[.agg #[.int .i64 0, .int .i64 1, .int .i64 2, .slice ca 4 cc], .int .i64 0]) ∧ Below w.heap.size w w'
set_option maxHeartbeats 2000000 in
set_option maxRecDepth 100000 in
theorem cfun_any (B0 : Nat) (w : World) (h : NodeAt w B0) : Calls Try.prog 20 #[flatV B0, .slice none 0 0] w (FnOk w) := by
  unfold flatV
  have hmm := @run_makeMap Try.prog
  have hb : Below w.heap.size w ((w.alloc (.cells #[.int .i64 0, .int .i64 12, .int .i64 1, .string ⟨#[]⟩, .slice (some ⟨B0, 0, none⟩) 2 2] 38)).alloc (.cells #[.int .i64 0, .int .i64 0, .int .i64 0, .slice none 0 0] 45)) := ((Below.refl _ _).alloc (Nat.le_refl _) _).alloc (by simp) _
  have gP : ((w.alloc (.cells #[.int .i64 0, .int .i64 12, .int .i64 1, .string ⟨#[]⟩, .slice (some ⟨B0, 0, none⟩) 2 2] 38)).alloc (.cells #[.int .i64 0, .int .i64 0, .int .i64 0, .slice none 0 0] 45)).heap[w.heap.size]? = some (.cells #[.int .i64 0, .int .i64 12, .int .i64 1, .string ⟨#[]⟩, .slice (some ⟨B0, 0, none⟩) 2 2] 38 (0, 0)) := (Below.heap_alloc _ _ _ (by simp)).trans (new_heap w _)
  have gR : ((w.alloc (.cells #[.int .i64 0, .int .i64 12, .int .i64 1, .string ⟨#[]⟩, .slice (some ⟨B0, 0, none⟩) 2 2] 38)).alloc (.cells #[.int .i64 0, .int .i64 0, .int .i64 0, .slice none 0 0] 45)).heap[w.heap.size + 1]? = some (.cells #[.int .i64 0, .int .i64 0, .int .i64 0, .slice none 0 0] 45 (0, 0)) := (congrArg _ (by simp)).trans (new_heap (w.alloc _) _)
  have hN := h.below hb
  have hN0 := heap_lt h
  clear h
  go_enter Try.func20, Try.ntmps20
  go_upto_region 1 with fail
  generalize ((w.alloc (.cells #[.int .i64 0, .int .i64 12, .int .i64 1, .string ⟨#[]⟩, .slice (some ⟨B0, 0, none⟩) 2 2] 38)).alloc (.cells #[.int .i64 0, .int .i64 0, .int .i64 0, .slice none 0 0] 45)) = W at *
  obtain ⟨p0, p1, p2, p3, p4⟩ := flat_cells gP
  go_wp2_with fail
  refine (cLocals_any B0 _ hN).mono ?_
  rintro e w2 ⟨rfl, hb2⟩
  have gP2 := (hb2.block _ (heap_lt gP)).trans gP
  have gR2 := (hb2.block _ (heap_lt gR)).trans gR
  have hN2 := hN.below hb2
  have hbb := hb.trans (hb2.mono hb.size)
  clear gP gR hN hb hb2 p0 p1 p2 p3 p4
  go_wp2_with fail
  generalize hw3 : (w2.alloc (.map #[] 0)) = w3
  generalize hw4 : (w3.alloc (.cells #[.slice none 0 0, .map (some w2.heap.size)] 91)) = w4
  have hg1 : w2.grownBy w3 none := hw3 ▸ grown_alloc w2 _
  have hg2 : w3.grownBy w4 none := hw4 ▸ grown_alloc w3 _
  have hz3 : w3.heap.size = w2.heap.size + 1 := by subst hw3; simp
  have hz4 : w4.heap.size = w2.heap.size + 1 + 1 := by subst hw4; simp [hz3]
  have gW4 : w4.heap[w2.heap.size + 1]? = some (.cells #[.slice none 0 0, .map (some w2.heap.size)] 91 (0, 0)) := by subst hw4; rw [← hz3]; exact new_heap w3 _
  clear hw3 hw4
  have hl0 := hbb.size
  have hl1 := heap_lt gP2
  have hl2 := heap_lt gR2
  have hgN := grown_both hg1 hg2
  have gP4 := (hgN.block _ hl1 (by nofun)).trans gP2
  have gR4 := (hgN.block _ hl2 (by nofun)).trans gR2
  have hN4 := hN2.below (grown_under hgN (Nat.le_refl _) (by nofun))
  have hb4 := hbb.trans (grown_under (B := w.heap.size) hgN hl0 (by nofun))
  have HW4 : Hid (WSt w4 (w2.heap.size + 1) w2.heap.size (w2.heap.size + 1 + 1) (.slice none 0 0) []) := ⟨gW4, World.ownsRow_nil _ _ _ _, Nat.lt_succ_self _⟩
  have hBz : w2.heap.size + 1 + 1 ≤ w4.heap.size := by omega
  clear hg1 hg2 gW4 hgN gP2 gR2 hN2 hbb
  generalize w2.heap.size = wm at *
  clear hz3 hz4
  have HX := Lib.hid (exp_node (wm + 1) wm (wm + 1 + 1) B0 (.slice none 0 0) w4 HW4.out hBz hN4 (by omega))
  go_loop [27] (fun i => i = .int .i64 0) (fun _ => 0)
  case atStart => rfl
  case round =>
    subst hrel
    obtain ⟨p0, p1, p2, p3, p4⟩ := flat_cells gP4
    go_wp2_with fail
    refine HX.out.mono ?_
    rintro e w5 ⟨rfl, cv5, hW5, hE5⟩
    have gP5 := (hE5.kept _ (heap_lt gP4) (by omega) (by nofun)).trans gP4
    have gR5 := (hE5.kept _ (heap_lt gR4) (by omega) (by nofun)).trans gR4
    have hs5 := hE5.size
    have hb5 := hb4.trans (hE5.below (B := w.heap.size) (by omega) (by omega) (by nofun))
    have hc5 := owns_lt hW5.own
    have HM := Lib.hid (emit_any (wm + 1) wm (wm + 1 + 1) cv5 _ 9 0 0 w5 hW5 (by omega) (by simp))
    clear p0 p1 p2 p3 p4 gP4 gR4 hE5 hW5 HX HW4 hN4 hb4
    go_wp2_with fail
    refine HM.out.mono ?_
    rintro e w6 ⟨⟨r0, rfl⟩, cv6, hW6, hE6⟩
    have gP6 := (hE6.kept _ (heap_lt gP5) (by omega) (fun e => by have := (hc5 _ e).1; omega)).trans gP5
    have gR6 := (hE6.kept _ (heap_lt gR5) (by omega) (fun e => by have := (hc5 _ e).1; omega)).trans gR5
    have hs6 := hE6.size
    have hb6 := hb5.trans (hE6.below (B := w.heap.size) (by omega) (by omega) (fun k e => by have := (hc5 _ e).1; omega))
    have hI6 : IsCode w6 cv6 exCode := isRow_owns hW6.own
    have hd6 := depth_any cv6 exCode w6 hI6 (by decide)
    have gW6 := hW6.blk
    obtain ⟨ca, cc, rfl, _⟩ := hI6
    have HD := Lib.hid hd6
    obtain ⟨s0, s1⟩ := w_cells gW6
    clear hd6 hE6 hW6 HM gP5 gR5 hb5 hc5
    go_wp2_with fail
    refine HD.out.mono ?_
    rintro e w7 ⟨r, er, rfl, hdep, hb7⟩
    obtain ⟨rfl, rfl⟩ := dep_one _ _ _ _ _ hdep ex_depth
    have gP7 := (hb7.block _ (heap_lt gP6)).trans gP6
    have gR7 := (hb7.block _ (heap_lt gR6)).trans gR6
    have gW7 := (hb7.block _ (heap_lt gW6)).trans gW6
    have hbe := hb6.trans (hb7.mono hb6.size)
    clear gP6 gR6 gW6 s0 s1 hb6 hb7 HD
    obtain ⟨p0, p1, p2, p3, p4⟩ := flat_cells gP7
    obtain ⟨s0, s1⟩ := w_cells gW7
    have hfz : w7.frozen? ⟨w.heap.size + 1, 0, none⟩ = false := Lib.frozen_of_heap gR7 0
    obtain ⟨q0, q1, q2, q3⟩ := fun_cells gR7
    go_upto_region 17 with fail
    obtain ⟨gr, hgr⟩ := set4 gR7 (.int .i64 0) (.int .i64 1) (.int .i64 2) (.slice ca exCode.length cc)
    have hbf := hbe.trans (grown_under (B := w.heap.size) hgr (by have := hbe.size; omega) (fun k hk => by cases hk; omega))
    have hfz1 : w7.frozen? ⟨w.heap.size + 1, 1, none⟩ = false := Lib.frozen_of_heap gR7 1
    have hfz2 : w7.frozen? ⟨w.heap.size + 1, 2, none⟩ = false := Lib.frozen_of_heap gR7 2
    have hfz3 : w7.frozen? ⟨w.heap.size + 1, 3, none⟩ = false := Lib.frozen_of_heap gR7 3
    have HG := Lib.hid gr
    clear hgr hbe gr
    go_region
    all_goals go_wp2_with fail
    all_goals
      have hg1 := HG.out
      refine bodyPost_ret (v := .tuple #[.agg #[.int .i64 0, .int .i64 1, .int .i64 2, .slice ca 4 cc], .int .i64 0]) ?_ rfl ⟨ca, cc, rfl, hbf.drew⟩
      rw [results_cell_tmp (p := 4) (u := 5) (ty := 45) rfl]
      simp [asAddr, run_loadVar_row (((((w7.setCell { block := w.heap.size + 1, off := 0 } (Value.int IntKind.i64 0)).setCell
                    { block := w.heap.size + 1, off := 1 } (Value.int IntKind.i64 1)).setCell
                { block := w.heap.size + 1, off := 2 } (Value.int IntKind.i64 2)).setCell
            { block := w.heap.size + 1, off := 3 } (Value.slice ca exCode.length cc)).drew) _ _ _ _ _ _ hg1 Try.underlying45 rfl fun_info, Result.andThen]
      try rfl
end Go.Proofs.Ytidolpcbbbakmaa
