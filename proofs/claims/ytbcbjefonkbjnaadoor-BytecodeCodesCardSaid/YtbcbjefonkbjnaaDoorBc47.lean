/- Decode of the reference. -/
import Derived.Test.YtbcbjefonkbjnaaDoorBc46
namespace Go.Proofs.YtbcbjefonkbjnaaDoor
open Go Go.RowKit

set_option maxHeartbeats 1000000 in
set_option maxRecDepth 100000 in
theorem rdecode_end (v : Value) (l : List Int) (w : World) (hn : l.length < 2) (h : IsRow w v l.length (u8s l)) :
    Calls Tryd.prog 22 #[v] w (AnsOk (decT l) w) := by
  rw [decT_short l hn]
  obtain ⟨a, c, rfl, hlc, _⟩ := h
  generalize l.length = m at *
  have hb0 : Below w.heap.size w (w.alloc (.cells #[.slice none 0 0, .slice none 0 0, .int .i64 0] 25)) := (Below.refl _ _).alloc (Nat.le_refl _) _
  have gB : (w.alloc (.cells #[.slice none 0 0, .slice none 0 0, .int .i64 0] 25)).heap[w.heap.size]? = some (.cells #[.slice none 0 0, .slice none 0 0, .int .i64 0] 25 (0, 0)) := new_heap w _
  have hj1 : IntKind.i64.wrap ((m : Int) - 2) = (m : Int) - 2 := wrap_ok _ (by omega) (by omega)
  have hj2 : ((m : Int) - 2 < 0) = True := eq_true (by omega)
  go_enter Tryd.func22, Tryd.ntmps22
  go_upto_region 1 with fail
  generalize w.alloc (.cells #[.slice none 0 0, .slice none 0 0, .int .i64 0] 25) = W at *
  obtain ⟨z0, z1, z2⟩ := ins_cells gB
  have fz0 : W.frozen? ⟨w.heap.size, 0, none⟩ = false := Lib.frozen_of_heap gB 0
  have fz1 : W.frozen? ⟨w.heap.size, 1, none⟩ = false := Lib.frozen_of_heap gB 1
  have fz2 : W.frozen? ⟨w.heap.size, 2, none⟩ = false := Lib.frozen_of_heap gB 2
  have hlt := heap_lt gB
  obtain ⟨hr, hg⟩ := set3 gB (.slice none 0 0) (.slice none 0 0) (.int .i64 0)
  have hbe := hb0.trans (grown_under hg (by omega) (fun k hk => by cases hk; omega))
  have HBE := Lib.hid hbe
  have HR := Lib.hid hr
  clear hr hg hbe
  go_wp2_with fail
  refine bodyPost_ret (v := .tuple #[zeroP, .int .i64 4]) ?_ rfl ⟨_, _, ⟨[], [], 0⟩, 4, rfl, HBE.out, isProg_zero _, rfl⟩
  rw [results_cell_tmp (p := 2) (u := 3) (ty := 25) rfl]
  simp [asAddr, run_loadVar_row _ _ _ _ _ _ _ HR.out Tryd.underlying25 rfl prog_info, Result.andThen, zeroP]
set_option maxHeartbeats 2000000 in
set_option maxRecDepth 100000 in
theorem rdecode_go (v : Value) (l : List Int) (m n : Nat) (w : World) (hmn : m = n + 2) (hn : l.length = m) (hs : Small l) (h : IsRow w v m (u8s l)) :
    Calls Tryd.prog 22 #[v] w (AnsOk (decT l) w) := by
  have hb := hs.1
  have hl : n ≤ 20000 := by have := hs.2; omega
  obtain ⟨a, c, rfl, hlc, hcell⟩ := h
  obtain ⟨b, off, rfl, hlt, hc⟩ := hcell (by omega)
  have hb0 : Below w.heap.size w (w.alloc (.cells #[.slice none 0 0, .slice none 0 0, .int .i64 0] 25)) := (Below.refl _ _).alloc (Nat.le_refl _) _
  have gB : (w.alloc (.cells #[.slice none 0 0, .slice none 0 0, .int .i64 0] 25)).heap[w.heap.size]? = some (.cells #[.slice none 0 0, .slice none 0 0, .int .i64 0] 25 (0, 0)) := new_heap w _
  have hT : IsRow (w.alloc (.cells #[.slice none 0 0, .slice none 0 0, .int .i64 0] 25)) (.slice (some ⟨b, off, none⟩) n c) (l.take n).length (u8s (l.take n)) := by
    have ht : (l.take n).length = n := by rw [List.length_take]; omega
    refine ⟨_, c, by rw [ht], by omega, fun _ => ⟨b, off, rfl, by simp; omega, fun j hj => ?_⟩⟩
    rw [u8s_length, ht] at hj
    rw [hb0.cell (p := ⟨b, off + j, none⟩) hlt, hc j (by rw [u8s_length]; omega), u8s_at l j (by omega), u8s_at _ j (by omega)]
    simp [List.getD, hj]
  have ht : (l.take n).length = n := by rw [List.length_take]; omega
  have HS : Hid (∀ w', IsRow w' (.slice (some ⟨b, off, none⟩) n c) (l.take n).length (u8s (l.take n)) → _) := fun w' hr => rsum_any _ (l.take n) w' (by omega) (fun x hx => hb x (List.mem_of_mem_take hx)) hr
  have HBd : Hid (∀ w', IsRow w' (.slice (some ⟨b, off, none⟩) n c) (l.take n).length (u8s (l.take n)) → _) := fun w' hr => rbody_any _ (l.take n) w' hr (small_take l n hs)
  have HT := Lib.hid hT
  have hse : sumK (l.take n) (l.take n).length = sumK l n := by
    rw [ht]
    exact sumK_le _ _ n (fun j hj => by simp [List.getD, hj]) n (Nat.le_refl _)
  have d0 : (w.alloc (.cells #[.slice none 0 0, .slice none 0 0, .int .i64 0] 25)).cell? ⟨b, off + n, none⟩ = some (.int .u8 (l.getD n 0)) := by
    rw [hb0.cell (p := ⟨b, off + n, none⟩) hlt, hc n (by rw [u8s_length]; omega), u8s_at l n (by omega)]
  have d1 : (w.alloc (.cells #[.slice none 0 0, .slice none 0 0, .int .i64 0] 25)).cell? ⟨b, off + (n + 1), none⟩ = some (.int .u8 (l.getD (n + 1) 0)) := by
    rw [hb0.cell (p := ⟨b, off + (n + 1), none⟩) hlt, hc (n + 1) (by rw [u8s_length]; omega), u8s_at l (n + 1) (by omega)]
  obtain ⟨x0, x1⟩ := hb.at n (by omega)
  obtain ⟨y0, y1⟩ := hb.at (n + 1) (by omega)
  have Hse := Lib.hid hse
  have HG : Hid (sumK l n = l.getD n 0 * 256 + l.getD (n + 1) 0 → ∀ (p : ProgD) (ok : Bool), pBody (l.take n) = (if ok = true then some (strip p) else none) → decT l = chkT ok (strip p)) := fun heq p ok hp => decT_go l n (by omega) heq p ok hp
  have HN : Hid (sumK l n ≠ l.getD n 0 * 256 + l.getD (n + 1) 0 → decT l = (zeroS, 29)) := fun hne => decT_sum l n (by omega) hne
  have HZ : Hid (∀ (p : ProgD) (ok : Bool), pBody (l.take n) = (if ok = true then some (strip p) else none) → ok = true → p.funs.length ≤ 1000000 ∧ p.texts.length ≤ 1000000) := fun p ok hp => body_sizes _ p ok (small_take l n hs) hp
  generalize l.getD n 0 = x at *
  generalize l.getD (n + 1) 0 = y at *
  generalize hs' : sumK l n = s at *
  have hmi : (m : Int) - 2 = (n : Int) := by omega
  have hm1 : m ≤ 20002 := by omega
  have hm2 : n < m := by omega
  have hm3 : n + 1 < m := by omega
  have hnc : n ≤ c := by omega
  have hj0 : (0 : Int) ≤ (n : Int) := by omega
  have hj1 : (n : Int) ≤ (c : Int) := by omega
  have hj2 : (n : Int) < (m : Int) := by omega
  have hj3 : (n : Int) + 1 < (m : Int) := by omega
  have hj4 : (0 : Int) ≤ (n : Int) + 1 := by omega
  have hj5 : IntKind.i64.wrap ((n : Int) + 1) = (n : Int) + 1 := wrap_ok _ (by omega) (by omega)
  have hj6 : IntKind.i64.wrap x = x := wrap_ok _ (by omega) (by omega)
  have hj7 : IntKind.i64.wrap y = y := wrap_ok _ (by omega) (by omega)
  have hj8 : IntKind.i64.wrap (256 * x) = 256 * x := wrap_ok _ (by omega) (by omega)
  have hj9 : IntKind.i64.wrap (256 * x + y) = 256 * x + y := wrap_ok _ (by omega) (by omega)
  clear hcell hc hT hse hs' hs hmn hn ht
  go_enter Tryd.func22, Tryd.ntmps22
  go_wp2_with fail
  go_region_held3 (fun w' => w'.cell? ⟨b, off + n, none⟩ = some (.int .u8 x) ∧ w'.cell? ⟨b, off + (n + 1), none⟩ = some (.int .u8 y)) (exact ⟨d0, d1⟩)
    ((go_at_call 47; refine (HS.out _ (by exact HT.out)).mono ?_; rintro e w' ⟨rfl, rfl⟩; rw [Hse.out]))
  have gD : (w.alloc (.cells #[.slice none 0 0, .slice none 0 0, .int .i64 0] 25)).drew.heap[w.heap.size]? = some (.cells #[.slice none 0 0, .slice none 0 0, .int .i64 0] 25 (0, 0)) := gB
  have hbD : Below w.heap.size w (w.alloc (.cells #[.slice none 0 0, .slice none 0 0, .int .i64 0] 25)).drew := hb0.drew
  have hTD := HT.out
  have HTD : Hid (IsRow (w.alloc (.cells #[.slice none 0 0, .slice none 0 0, .int .i64 0] 25)).drew (.slice (some ⟨b, off, none⟩) n c) (l.take n).length (u8s (l.take n))) := hTD
  clear gB hb0 hTD HT d0 d1 HS
  generalize (w.alloc (.cells #[.slice none 0 0, .slice none 0 0, .int .i64 0] 25)).drew = W1 at *
  by_cases hq : s = x * 256 + y
  · have hsb : (s == 256 * x + y) = true := beq_iff_eq.2 (by omega)
    have hsn : (s != 256 * x + y) = false := by simp only [bne, hsb]; rfl
    have HG2 := Lib.hid (HG.out hq)
    clear hq HG HN
    go_wp2_with fail
    refine (HBd.out _ (by exact HTD.out)).mono ?_
    rintro e w2 ⟨fv, tv, p, ok, rfl, hb2, hp2, hpb⟩
    have hb2' := hbD.trans (hb2.mono hbD.size)
    have gB2 := (hb2.block w.heap.size (heap_lt gD)).trans gD
    obtain ⟨fa, fc, ta, tc, rfl, rfl⟩ := isProg_slices hp2
    have HZ2 := Lib.hid (HZ.out p ok hpb)
    have HD := Lib.hid (HG2.out p ok hpb)
    have HP2 := Lib.hid hp2
    clear hb2 hp2 hpb hbD gD HG2 HZ HBd HTD
    go_upto_region 9 with fail
    have hga := grown_alloc w2 (.cells #[.slice fa p.funs.length fc, .slice ta p.texts.length tc, .int .i64 p.main] 25)
    have gA3 := new_heap w2 (.cells #[.slice fa p.funs.length fc, .slice ta p.texts.length tc, .int .i64 p.main] 25)
    have hltB := heap_lt gB2
    have gB3 := (hga.block _ hltB (by nofun)).trans gB2
    have hb3 := hb2'.trans (grown_under (B := w.heap.size) hga (by omega) (by nofun))
    have HP3 := Lib.hid (HP2.out.below (grown_under hga (Nat.le_refl _) (by nofun)))
    clear hga gB2 hb2' HP2
    generalize hAq : w2.heap.size = A at *
    generalize w2.alloc (.cells #[.slice fa p.funs.length fc, .slice ta p.texts.length tc, .int .i64 p.main] 25) = V at *
    cases ok
    · obtain ⟨z0, z1, z2⟩ := ins_cells gB3
      have hr := (set3 gB3 (.slice none 0 0) (.slice none 0 0) (.int .i64 0)).1
      have hg := (set3 gB3 (.slice none 0 0) (.slice none 0 0) (.int .i64 0)).2
      have hlt := heap_lt gB3
      have HBE := Lib.hid (hb3.trans (grown_under hg (by omega) (fun k hk => by cases hk; omega)))
      have HR := Lib.hid hr
      have fz0 := Lib.frozen_of_heap gB3 0
      have fz1 := Lib.frozen_of_heap gB3 1
      have fz2 := Lib.frozen_of_heap gB3 2
      clear hr hg
      go_wp2_with fail
      refine bodyPost_ret (v := .tuple #[zeroP, .int .i64 3]) ?_ rfl (zeroP_ans 3 HBE.out _ (by rw [HD.out]; rfl))
      rw [results_cell_tmp (p := 2) (u := 3) (ty := 25) rfl]
      simp [asAddr, run_loadVar_row _ _ _ _ _ _ _ HR.out Tryd.underlying25 rfl prog_info, Result.andThen, zeroP]
    · obtain ⟨hz1, hz2⟩ := HZ2.out rfl
      obtain ⟨p0, p1, p2⟩ := ins_cells gA3
      have HV := Lib.hid (rvalid_any _ _ p V HP3.out hz1 hz2)
      clear hz1 hz2
      go_wp2_with fail
      refine HV.out.mono ?_
      rintro e V2 ⟨rfl, hbV⟩
      have gA4 := (hbV.block _ (heap_lt gA3)).trans gA3
      have gB4 := (hbV.block _ (heap_lt gB3)).trans gB3
      have hb4 := hb3.trans (hbV.mono hb3.size)
      have HP4 := Lib.hid (HP3.out.below hbV)
      clear gA3 gB3 hb3 hbV HV HP3 p0 p1 p2
      obtain ⟨p0, p1, p2⟩ := ins_cells gA4
      obtain ⟨q, hq⟩ : ∃ q, validB p = q := ⟨_, rfl⟩
      have Hq := Lib.hid hq
      rw [hq]
      clear hq
      cases q
      · obtain ⟨z0, z1, z2⟩ := ins_cells gB4
        have hr := (set3 gB4 (.slice none 0 0) (.slice none 0 0) (.int .i64 0)).1
        have hg := (set3 gB4 (.slice none 0 0) (.slice none 0 0) (.int .i64 0)).2
        have hlt := heap_lt gB4
        have HBE := Lib.hid (hb4.trans (grown_under hg (by omega) (fun k hk => by cases hk; omega)))
        have HR := Lib.hid hr
        have fz0 := Lib.frozen_of_heap gB4 0
        have fz1 := Lib.frozen_of_heap gB4 1
        have fz2 := Lib.frozen_of_heap gB4 2
        clear hr hg
        go_wp2_with fail
        refine bodyPost_ret (v := .tuple #[zeroP, .int .i64 1]) ?_ rfl (zeroP_ans 1 HBE.out _ (by rw [HD.out]; exact (chk_bad _ ((validS_strip p).trans Hq.out)).symm))
        rw [results_cell_tmp (p := 2) (u := 3) (ty := 25) rfl]
        simp [asAddr, run_loadVar_row _ _ _ _ _ _ _ HR.out Tryd.underlying25 rfl prog_info, Result.andThen, zeroP]
      · obtain ⟨z0, z1, z2⟩ := ins_cells gB4
        have hr := (set3 gB4 (.slice fa p.funs.length fc) (.slice ta p.texts.length tc) (.int .i64 p.main)).1
        have hg := (set3 gB4 (.slice fa p.funs.length fc) (.slice ta p.texts.length tc) (.int .i64 p.main)).2
        have hlt := heap_lt gB4
        have HBE := Lib.hid (hb4.trans (grown_under hg (by omega) (fun k hk => by cases hk; omega)))
        have HPE := Lib.hid (HP4.out.store gB4 hg)
        have HR := Lib.hid hr
        have fz0 := Lib.frozen_of_heap gB4 0
        have fz1 := Lib.frozen_of_heap gB4 1
        have fz2 := Lib.frozen_of_heap gB4 2
        clear hr hg
        go_wp2_with fail
        refine bodyPost_ret (v := .tuple #[.agg #[.slice fa p.funs.length fc, .slice ta p.texts.length tc, .int .i64 p.main], .int .i64 0]) ?_ rfl ⟨_, _, p, 0, rfl, HBE.out, HPE.out, by rw [HD.out]; exact (chk_ok _ ((validS_strip p).trans Hq.out)).symm⟩
        rw [results_cell_tmp (p := 2) (u := 3) (ty := 25) rfl]
        simp [asAddr, run_loadVar_row _ _ _ _ _ _ _ HR.out Tryd.underlying25 rfl prog_info, Result.andThen]
  · have hsb : (s == 256 * x + y) = false := beq_eq_false_iff_ne.2 (by omega)
    have hsn : (s != 256 * x + y) = true := by simp only [bne, hsb]; rfl
    have HN2 := Lib.hid (HN.out hq)
    clear hq HG HN
    obtain ⟨z0, z1, z2⟩ := ins_cells gD
    have hr := (set3 gD (.slice none 0 0) (.slice none 0 0) (.int .i64 0)).1
    have hg := (set3 gD (.slice none 0 0) (.slice none 0 0) (.int .i64 0)).2
    have hlt := heap_lt gD
    have HBE := Lib.hid (hbD.trans (grown_under hg (by omega) (fun k hk => by cases hk; omega)))
    have HR := Lib.hid hr
    have fz0 := Lib.frozen_of_heap gD 0
    have fz1 := Lib.frozen_of_heap gD 1
    have fz2 := Lib.frozen_of_heap gD 2
    clear hr hg
    go_wp2_with fail
    refine bodyPost_ret (v := .tuple #[zeroP, .int .i64 29]) ?_ rfl (zeroP_ans 29 HBE.out _ HN2.out.symm)
    rw [results_cell_tmp (p := 2) (u := 3) (ty := 25) rfl]
    simp [asAddr, run_loadVar_row _ _ _ _ _ _ _ HR.out Tryd.underlying25 rfl prog_info, Result.andThen, zeroP]
theorem rdecode_any (v : Value) (l : List Int) (w : World) (hs : Small l) (h : IsRow w v l.length (u8s l)) :
    Calls Tryd.prog 22 #[v] w (AnsOk (decT l) w) := by
  by_cases h2 : l.length < 2
  · exact rdecode_end v l w h2 h
  · obtain ⟨n, hn⟩ : ∃ n, l.length = n + 2 := ⟨l.length - 2, by omega⟩
    exact rdecode_go v l _ n w hn rfl hs h
end Go.Proofs.YtbcbjefonkbjnaaDoor
