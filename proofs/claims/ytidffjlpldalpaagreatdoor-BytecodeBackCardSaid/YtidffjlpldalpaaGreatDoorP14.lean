/- slices.Clone of bytes; Decode where the sum is wrong; none of nothing. BytecodeFlow's look at the targets. BytecodeFlow: the walk. none of nothing; BytecodeDamage: the walk. -/
import Derived.Test.YtidffjlpldalpaaGreatDoorP13
import Derived.Laws.ResultCell
import Derived.Lib.SliceRun
set_option linter.unusedVariables false
set_option linter.unusedSimpArgs false
namespace Go.Proofs.YtidffjlpldalpaaGreatDoor
open Go Go.RowKit

theorem wrap_ok (z : Int) (h0 : -9223372036854775808 ≤ z) (h1 : z ≤ 9223372036854775807) : IntKind.i64.wrap z = z := by rw [IntKind.wrap_i64]; omega
def zeroP : Value := .agg #[.slice none 0 0, .slice none 0 0, .int .i64 0]
set_option maxHeartbeats 1000000 in
set_option maxRecDepth 100000 in
theorem decode_sum (v : Value) (l : List Int) (m n : Nat) (w : World) (hmn : m = n + 2) (hn : l.length = m) (hl : n ≤ 200000) (hb : AreBytes l) (h : IsRow w v m (u8s l)) (hne : sumK l n ≠ l.getD n 0 * 256 + l.getD (n + 1) 0) :
    Calls Tryz.prog 15 #[v] w fun e w' => e = .returned (.tuple #[zeroP, .int .i64 29]) ∧ Below w.heap.size w w' := by
  obtain ⟨a, c, rfl, hlc, hcell⟩ := h
  obtain ⟨b, off, rfl, hlt, hc⟩ := hcell (by omega)
  have hb0 : Below w.heap.size w (w.alloc (.cells #[.slice none 0 0, .slice none 0 0, .int .i64 0] 25)) := (Below.refl _ _).alloc (Nat.le_refl _) _
  have hT : IsRow (w.alloc (.cells #[.slice none 0 0, .slice none 0 0, .int .i64 0] 25)) (.slice (some ⟨b, off, none⟩) n c) (l.take n).length (u8s (l.take n)) := by
    have ht : (l.take n).length = n := by rw [List.length_take]; omega
    refine ⟨_, c, by rw [ht], by omega, fun _ => ⟨b, off, rfl, by simp; omega, fun j hj => ?_⟩⟩
    rw [u8s_length, ht] at hj
    rw [hb0.cell (p := ⟨b, off + j, none⟩) hlt, hc j (by rw [u8s_length]; omega), u8s_at l j (by omega), u8s_at _ j (by omega)]
    simp [List.getD, hj]
  have ht : (l.take n).length = n := by rw [List.length_take]; omega
  have HS : Hid (∀ w', IsRow w' (.slice (some ⟨b, off, none⟩) n c) (l.take n).length (u8s (l.take n)) → _) := fun w' hr => sum_any _ (l.take n) w' (by omega) (fun x hx => hb x (List.mem_of_mem_take hx)) hr
  have HT := Lib.hid hT
  have hse : sumK (l.take n) (l.take n).length = sumK l n := by
    rw [ht]
    exact sumK_le _ _ n (fun j hj => by simp [List.getD, hj]) n (Nat.le_refl _)
  have d0 : (w.alloc (.cells #[.slice none 0 0, .slice none 0 0, .int .i64 0] 25)).cell? ⟨b, off + n, none⟩ = some (.int .u8 (l.getD n 0)) := by
    rw [hb0.cell (p := ⟨b, off + n, none⟩) hlt, hc n (by rw [u8s_length]; omega), u8s_at l n (by omega)]
  have d1 : (w.alloc (.cells #[.slice none 0 0, .slice none 0 0, .int .i64 0] 25)).cell? ⟨b, off + (n + 1), none⟩ = some (.int .u8 (l.getD (n + 1) 0)) := by
    rw [hb0.cell (p := ⟨b, off + (n + 1), none⟩) hlt, hc (n + 1) (by rw [u8s_length]; omega), u8s_at l (n + 1) (by omega)]
  obtain ⟨x0, x1⟩ := hb.at n (by omega)
  obtain ⟨y0, y1⟩ := hb.at (n + 1) (by omega)
  have Hse := Lib.hid hse
  generalize l.getD n 0 = x at *
  generalize l.getD (n + 1) 0 = y at *
  generalize hs : sumK l n = s at *
  have hsb : (s == x * 256 + y) = false := beq_eq_false_iff_ne.2 hne
  have hmi : (m : Int) - 2 = (n : Int) := by omega
  have hm1 : m ≤ 200002 := by omega
  have hm2 : n < m := by omega
  have hm3 : n + 1 < m := by omega
  have hnc : n ≤ c := by omega
  have hj0 : (0 : Int) ≤ (n : Int) := by omega
  have hj1 : (n : Int) ≤ (c : Int) := by omega
  have hj2 : (n : Int) < (m : Int) := by omega
  have hj3 : (n : Int) + 1 < (m : Int) := by omega
  have hj4 : (0 : Int) ≤ (n : Int) + 1 := by omega
  have hj5 : IntKind.i64.wrap ((n : Int) + 1) = (n : Int) + 1 := wrap_ok _ (by omega) (by omega)
  have hj6 : IntKind.i64.wrap x = x := wrap_ok _ (by omega) (by omega)
  have hj7 : IntKind.i64.wrap y = y := wrap_ok _ (by omega) (by omega)
  have hj8 : IntKind.i64.wrap (x * 256) = x * 256 := wrap_ok _ (by omega) (by omega)
  have hj9 : IntKind.i64.wrap (x * 256 + y) = x * 256 + y := wrap_ok _ (by omega) (by omega)
  clear hcell hc hT hse hne hs hmn hn ht
  go_enter Tryz.func15, Tryz.ntmps15
  go_wp2_with fail
  go_region_held3 (fun w' => w'.cell? ⟨b, off + n, none⟩ = some (.int .u8 x) ∧ w'.cell? ⟨b, off + (n + 1), none⟩ = some (.int .u8 y)) (exact ⟨d0, d1⟩)
    ((go_at_call 48; refine (HS.out _ (by exact HT.out)).mono ?_; rintro e w' ⟨rfl, rfl⟩; rw [Hse.out]))
  go_wp2_with fail
  have hg : (w.alloc (.cells #[.slice none 0 0, .slice none 0 0, .int .i64 0] 25)).drew.heap[w.heap.size]? = some (.cells #[.slice none 0 0, .slice none 0 0, .int .i64 0] 25 (0, 0)) := new_heap w _
  refine bodyPost_ret (v := .tuple #[zeroP, .int .i64 29]) ?_ rfl ⟨rfl, hb0.drew⟩
  rw [results_cell_tmp (p := 2) (u := 3) (ty := 25) rfl]
  simp [asAddr, run_loadVar_row _ _ _ _ _ _ _ hg Tryz.underlying25 rfl prog_info, Result.andThen, zeroP]



theorem heap_set_same {w : World} {b i : Nat} {cs : Array Value} {T : TypeId} {fr : Nat × Nat} (hb : w.heap[b]? = some (.cells cs T fr)) (v : Value) : (w.setCell ⟨b, i, none⟩ v).heap[b]? = some (.cells (cs.setIfInBounds i v) T fr) := by
  simp [World.setCell, Array.getElem?_modify, hb]
theorem wf_u8 (z : Int) (h : (Lit.int .u8 z).wf = true) : 0 ≤ z ∧ z < 256 := by
  simp [Lit.wf, IntKind.min, IntKind.max, IntKind.bits, IntKind.signed] at h; omega
end Go.Proofs.YtidffjlpldalpaaGreatDoor
