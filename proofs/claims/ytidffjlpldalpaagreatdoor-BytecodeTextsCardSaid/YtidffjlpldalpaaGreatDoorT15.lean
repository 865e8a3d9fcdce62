/- right of the reference. -/
import Derived.Test.YtidffjlpldalpaaGreatDoorT14
import Derived.Test.YtidffjlpldalpaaGreatDoorT1
set_option linter.unusedVariables false
set_option linter.unusedSimpArgs false
namespace Go.Proofs.YtidffjlpldalpaaGreatDoor
open Go Go.RowKit

theorem operands_any (op : Int) (w : World) : Calls Tryz.prog 38 #[.int .i64 op] w fun e w' => e = .returned (.int .i64 (opnds op)) ∧ w = w' := by
  go_enter Tryz.func38, Tryz.ntmps38
  go_wp2
  all_goals
    go_ret
    refine ⟨ret_int ?_, rfl⟩
    simp only [beq_iff_eq, beq_eq_false_iff_ne, ne_eq] at *
    unfold opnds
    repeat' split
    all_goals omega
theorem arity_gt (x : Int) : decide (0 < ref46_arity x) = inB x 1 14 := by
  have h := arity_val x
  cases hb : inB x 1 14
  · rw [h.2 hb]; rfl
  · have := (arity_pos x).2 hb
    exact decide_eq_true (by omega)
theorem jumps_next (l : List Ins) (j : Nat) (h : j < l.length) (ha : (l.take j).all (fun i => i.op == 14) = true) (hx : (l.getD j default).op = 14) : (l.take (j + 1)).all (fun i => i.op == 14) = true := by
  rw [List.take_succ_eq_append_getElem h, List.all_append, ha]
  simp [List.getD, h] at hx
  simp [hx]
theorem jumps_hit (l : List Ins) (j : Nat) (h : j < l.length) (hx : (l.getD j default).op ≠ 14) : l.all (fun i => i.op == 14) = false := by
  rw [List.all_eq_false]
  refine ⟨l.getD j default, getD_mem default l j h, by simpa using hx⟩
theorem sub_getD (l : List Ins) (a m j : Nat) (h : j < m) : ((l.drop a).take m).getD j default = l.getD (a + j) default := by
  simp only [List.getD_eq_getElem?_getD, List.getElem?_take, h, if_true, List.getElem?_drop]
set_option maxHeartbeats 2000000 in
set_option maxRecDepth 100000 in
theorem rright_any (fv : Value) (fs : List FunD) (ta : Option Addr) (nt tc : Nat) (main : Int) (c l d : Int) (cv : Value) (code : List Ins) (k : Nat) (w : World)
    (hf : IsFuns w fv fs) (hfl : fs.length ≤ 1000000) (hnt : nt ≤ 1000000) (hc0 : 0 ≤ c) (hc1 : c ≤ 1000) (hl0 : 1 ≤ l) (hl1 : l ≤ 4096)
    (h : IsCode w cv code) (hl : code.length ≤ 1000000) (hk : k < code.length) :
    Calls Tryz.prog 29 #[.agg #[fv, .slice ta nt tc, .int .i64 main], .agg #[.int .i64 c, .int .i64 l, .int .i64 d, cv], .int .i64 k] w (RightOk (rightB nt fs c l code k) w) := by
  obtain ⟨a, cc, rfl, hlc, hcell⟩ := h
  obtain ⟨b, off, rfl, hlt, hc⟩ := hcell (by omega)
  obtain ⟨c0, c1, c2⟩ := insCells_at code k hk
  have hlen := insCells_length code
  have e0 := hc (k * 3) (by omega)
  have e1 := hc (k * 3 + 1) (by omega)
  have e2 := hc (k * 3 + 2) (by omega)
  rw [c0] at e0; rw [c1, ← Nat.add_assoc] at e1; rw [c2, ← Nat.add_assoc] at e2
  obtain ⟨i, hi⟩ : ∃ i, i = code.getD k default := ⟨_, rfl⟩
  rw [← hi] at e0 e1 e2
  have Hi := Lib.hid hi
  obtain ⟨op, x, y⟩ := i
  simp only at e0 e1 e2
  have Hcc := Lib.hid hc
  have Hf := Lib.hid hf
  clear hcell hc c0 c1 c2 hlen hi hf
  obtain ⟨⟨fa, fc, rfl, hfc, _⟩, _⟩ := Hf.out
  go_enter Tryz.func29, Tryz.ntmps29
  go_wp2_with fail
  have hB3 : Below w.heap.size w (((w.alloc (.cells #[.slice fa fs.length fc, .slice ta nt tc, .int .i64 main] 25)).alloc (.cells #[.int .i64 c, .int .i64 l, .int .i64 d, .slice (some ⟨b, off, none⟩) code.length cc] 48)).alloc (.cells #[.int .i64 op, .int .i64 x, .int .i64 y] 64)) := (((Below.refl _ _).alloc (Nat.le_refl _) _).alloc (by simp) _).alloc (by simp; omega) _
  have hs3 : w.heap.size + 3 = (((w.alloc (.cells #[.slice fa fs.length fc, .slice ta nt tc, .int .i64 main] 25)).alloc (.cells #[.int .i64 c, .int .i64 l, .int .i64 d, .slice (some ⟨b, off, none⟩) code.length cc] 48)).alloc (.cells #[.int .i64 op, .int .i64 x, .int .i64 y] 64)).heap.size := by simp
  have g1 : (((w.alloc (.cells #[.slice fa fs.length fc, .slice ta nt tc, .int .i64 main] 25)).alloc (.cells #[.int .i64 c, .int .i64 l, .int .i64 d, .slice (some ⟨b, off, none⟩) code.length cc] 48)).alloc (.cells #[.int .i64 op, .int .i64 x, .int .i64 y] 64)).heap[w.heap.size]? = some (.cells #[.slice fa fs.length fc, .slice ta nt tc, .int .i64 main] 25) := heap_two w _ _ _
  have g2 : (((w.alloc (.cells #[.slice fa fs.length fc, .slice ta nt tc, .int .i64 main] 25)).alloc (.cells #[.int .i64 c, .int .i64 l, .int .i64 d, .slice (some ⟨b, off, none⟩) code.length cc] 48)).alloc (.cells #[.int .i64 op, .int .i64 x, .int .i64 y] 64)).heap[w.heap.size + 1]? = some (.cells #[.int .i64 c, .int .i64 l, .int .i64 d, .slice (some ⟨b, off, none⟩) code.length cc] 48) := by
    rw [Below.heap_alloc _ _ _ (by simp)]; exact (congrArg _ (by simp)).trans (new_heap (w.alloc (.cells #[.slice fa fs.length fc, .slice ta nt tc, .int .i64 main] 25)) _)
  have g3 : (((w.alloc (.cells #[.slice fa fs.length fc, .slice ta nt tc, .int .i64 main] 25)).alloc (.cells #[.int .i64 c, .int .i64 l, .int .i64 d, .slice (some ⟨b, off, none⟩) code.length cc] 48)).alloc (.cells #[.int .i64 op, .int .i64 x, .int .i64 y] 64)).heap[w.heap.size + 1 + 1]? = some (.cells #[.int .i64 op, .int .i64 x, .int .i64 y] 64) := (congrArg _ (by simp)).trans (new_heap ((w.alloc (.cells #[.slice fa fs.length fc, .slice ta nt tc, .int .i64 main] 25)).alloc (.cells #[.int .i64 c, .int .i64 l, .int .i64 d, .slice (some ⟨b, off, none⟩) code.length cc] 48)) _)
  generalize (((w.alloc (.cells #[.slice fa fs.length fc, .slice ta nt tc, .int .i64 main] 25)).alloc (.cells #[.int .i64 c, .int .i64 l, .int .i64 d, .slice (some ⟨b, off, none⟩) code.length cc] 48)).alloc (.cells #[.int .i64 op, .int .i64 x, .int .i64 y] 64)) = W at hB3 hs3 g1 g2 g3 ⊢
  refine (word_any _ _).mono ?_
  rintro e wc ⟨rfl, hB4⟩
  have hcellW : ∀ (q o : Nat) (v : Value), q < W.heap.size → W.cell? ⟨q, o, none⟩ = some v → wc.cell? ⟨q, o, none⟩ = some v := fun q o v hq hv => (hB4.cell (p := ⟨q, o, none⟩) hq).trans hv
  have i0 : wc.cell? ⟨w.heap.size + 1 + 1, 0, none⟩ = some (.int .i64 op) := hcellW _ _ _ (by omega) (by simp [World.cell?, g3])
  have i1 : wc.cell? ⟨w.heap.size + 1 + 1, 1, none⟩ = some (.int .i64 x) := hcellW _ _ _ (by omega) (by simp [World.cell?, g3])
  have i2 : wc.cell? ⟨w.heap.size + 1 + 1, 2, none⟩ = some (.int .i64 y) := hcellW _ _ _ (by omega) (by simp [World.cell?, g3])
  have f0 : wc.cell? ⟨w.heap.size + 1, 0, none⟩ = some (.int .i64 c) := hcellW _ _ _ (by omega) (by simp [World.cell?, g2])
  have f1 : wc.cell? ⟨w.heap.size + 1, 1, none⟩ = some (.int .i64 l) := hcellW _ _ _ (by omega) (by simp [World.cell?, g2])
  have f3 : wc.cell? ⟨w.heap.size + 1, 3, none⟩ = some (.slice (some ⟨b, off, none⟩) code.length cc) := hcellW _ _ _ (by omega) (by simp [World.cell?, g2])
  have p0 : wc.cell? ⟨w.heap.size, 0, none⟩ = some (.slice fa fs.length fc) := hcellW _ _ _ (by omega) (by simp [World.cell?, g1])
  have p1 : wc.cell? ⟨w.heap.size, 1, none⟩ = some (.slice ta nt tc) := hcellW _ _ _ (by omega) (by simp [World.cell?, g1])
  have hB : Below w.heap.size w wc := hB3.trans (hB4.mono (by omega))
  have Hcell := Lib.hid hcellW
  clear hcellW hB4 g1 g2 g3 e0 e1 e2
  have Hr : Hid (rightB nt fs c l code k = rightI nt fs c l code k ⟨op, x, y⟩) := by show _ = _; rw [rightB_eq, ← Hi.out]
  obtain ⟨bb, hbb⟩ : ∃ bb, knownB op = bb := ⟨_, rfl⟩
  cases bb
  · have ht : Hid (rightB nt fs c l code k = false) := by
      show _ = _; rw [Hr.out]; unfold rightI; simp only [hbb, if_true]
    rw [unknown_word op hbb]
    clear hbb
    go_wp2_with fail
    go_ret
    exact ⟨by rw [ht.out]; rfl, hB⟩
  · have hwd := known_word op hbb
    generalize wordS op = wd at *
    have hkn := hbb
    clear hbb
    rcases op_cases op with rfl | rfl | rfl | rfl | rfl | rfl | rfl | rfl | rfl | rfl | rfl | rfl | rfl | rfl | rfl | rfl | hno
    rotate_left 16
    · exfalso; unfold knownB inB at hkn; simp at hkn; omega
    · -- 1
      clear hkn
      go_wp2_with fail
      refine (operands_any _ _).mono ?_
      rintro e w' ⟨rfl, rfl⟩
      rw [show opnds 1 = 1 from rfl]
      by_cases hy : y = 0
      · subst hy
        go_wp2_with fail
        refine (operands_any _ _).mono ?_
        rintro e w' ⟨rfl, rfl⟩
        rw [show opnds 1 = 1 from rfl]
        go_wp2_with fail
        refine (in_any _ _ _ _).mono ?_
        rintro e w' ⟨rfl, rfl⟩
        go_wp2_with fail
        go_ret
        exact ⟨by rw [Hr.out]; simp [rightI, opnds, knownB]; simp [inB], hB⟩
      · go_wp2_with fail
        go_ret
        exact ⟨by rw [Hr.out]; simp [rightI, opnds, hy], hB⟩
    · -- 2
      clear hkn
      go_wp2_with fail
      refine (operands_any _ _).mono ?_
      rintro e w' ⟨rfl, rfl⟩
      rw [show opnds 2 = 1 from rfl]
      by_cases hy : y = 0
      · subst hy
        go_wp2_with fail
        refine (operands_any _ _).mono ?_
        rintro e w' ⟨rfl, rfl⟩
        rw [show opnds 2 = 1 from rfl]
        go_wp2_with fail
        refine (in_any _ _ _ _).mono ?_
        rintro e w' ⟨rfl, rfl⟩
        go_wp2_with fail
        go_ret
        exact ⟨by rw [Hr.out]; simp [rightI, opnds, knownB]; simp [inB], hB⟩
      · go_wp2_with fail
        go_ret
        exact ⟨by rw [Hr.out]; simp [rightI, opnds, hy], hB⟩
    · -- 3
      clear hkn
      go_wp2_with fail
      refine (operands_any _ _).mono ?_
      rintro e w' ⟨rfl, rfl⟩
      rw [show opnds 3 = 1 from rfl]
      by_cases hy : y = 0
      · subst hy
        go_wp2_with fail
        refine (operands_any _ _).mono ?_
        rintro e w' ⟨rfl, rfl⟩
        rw [show opnds 3 = 1 from rfl]
        go_wp2_with fail
        refine (in_any _ _ _ _).mono ?_
        rintro e w' ⟨rfl, rfl⟩
        go_wp2_with fail
        go_ret
        exact ⟨by rw [Hr.out]; simp [rightI, opnds, knownB]; simp [inB], hB⟩
      · go_wp2_with fail
        go_ret
        exact ⟨by rw [Hr.out]; simp [rightI, opnds, hy], hB⟩
    · -- 4
      clear hkn
      go_wp2_with fail
      refine (operands_any _ _).mono ?_
      rintro e w' ⟨rfl, rfl⟩
      rw [show opnds 4 = 1 from rfl]
      by_cases hy : y = 0
      · subst hy
        go_wp2_with fail
        refine (operands_any _ _).mono ?_
        rintro e w' ⟨rfl, rfl⟩
        rw [show opnds 4 = 1 from rfl]
        go_wp2_with fail
        refine (in_any _ _ _ _).mono ?_
        rintro e w' ⟨rfl, rfl⟩
        go_wp2_with fail
        go_ret
        exact ⟨by rw [Hr.out]; simp [rightI, opnds, knownB]; simp [inB], hB⟩
      · go_wp2_with fail
        go_ret
        exact ⟨by rw [Hr.out]; simp [rightI, opnds, hy], hB⟩
    · -- 5
      clear hkn
      go_wp2_with fail
      refine (operands_any _ _).mono ?_
      rintro e w' ⟨rfl, rfl⟩
      rw [show opnds 5 = 1 from rfl]
      by_cases hy : y = 0
      · subst hy
        go_wp2_with fail
        refine (operands_any _ _).mono ?_
        rintro e w' ⟨rfl, rfl⟩
        rw [show opnds 5 = 1 from rfl]
        go_wp2_with fail
        refine (in_any _ _ _ _).mono ?_
        rintro e w' ⟨rfl, rfl⟩
        go_wp2_with fail
        go_ret
        exact ⟨by rw [Hr.out]; simp [rightI, opnds, knownB]; simp [inB], hB⟩
      · go_wp2_with fail
        go_ret
        exact ⟨by rw [Hr.out]; simp [rightI, opnds, hy], hB⟩
    · -- 6
      clear hkn
      go_wp2_with fail
      refine (operands_any _ _).mono ?_
      rintro e w' ⟨rfl, rfl⟩
      rw [show opnds 6 = 0 from rfl]
      by_cases hy : y = 0
      · subst hy
        go_wp2_with fail
        refine (operands_any _ _).mono ?_
        rintro e w' ⟨rfl, rfl⟩
        rw [show opnds 6 = 0 from rfl]
        by_cases hx : x = 0
        · subst hx
          go_wp2_with fail
          go_ret
          exact ⟨by rw [Hr.out]; simp [rightI, opnds, knownB, inB], hB⟩
        · go_wp2_with fail
          go_ret
          exact ⟨by rw [Hr.out]; simp [rightI, opnds, hx], hB⟩
      · go_wp2_with fail
        go_ret
        exact ⟨by rw [Hr.out]; simp [rightI, opnds, hy], hB⟩
    · -- 7
      clear hkn
      go_wp2_with fail
      refine (operands_any _ _).mono ?_
      rintro e w' ⟨rfl, rfl⟩
      rw [show opnds 7 = 2 from rfl]
      go_wp2_with fail
      refine (operands_any _ _).mono ?_
      rintro e w' ⟨rfl, rfl⟩
      rw [show opnds 7 = 2 from rfl]
      obtain ⟨bb, hbb⟩ : ∃ bb, inB x 0 ((fs.length : Int) - 1) = bb := ⟨_, rfl⟩
      have Hbb := Lib.hid hbb
      cases bb
      · go_upto_region 15 with fail
        go_quiet ((go_at_call 27; exact Calls.quiet_of_same ((in_any _ _ _ _).mono fun _ _ h => ⟨by rw [h.1, hbb], h.2.symm⟩)))
        go_wp2_with fail
        go_ret
        exact ⟨by rw [Hr.out]; simp [rightI, opnds, knownB, Hbb.out] <;> simp [inB], bdrewN hB _⟩
      · have hx0 : 0 ≤ x ∧ x ≤ (fs.length : Int) - 1 := by simpa [inB] using hbb
        obtain ⟨n, rfl⟩ := Int.eq_ofNat_of_zero_le hx0.1
        have hn : n < fs.length := by omega
        obtain ⟨fb, fo, fc', fd, _, fe, ff, _⟩ := Hf.out.at' n hn
        obtain rfl := (Value.slice.inj fd).1
        have ff' := Hcell.out _ _ _ (by have := hB3.size; omega) ((hB3.cell (p := ⟨fb, fo + n * 4, none⟩) fe).trans ff)
        generalize hcf : (fs.getD n default).c = cf at *
        have Hcf := Lib.hid hcf
        clear hcf ff fd hx0
        go_upto_region 15 with fail
        go_quiet ((go_at_call 27; exact Calls.quiet_of_same ((in_any _ _ _ _).mono fun _ _ h => ⟨by rw [h.1, hbb], h.2.symm⟩)))
        go_wp2_with fail
        go_ret
        exact ⟨by rw [Hr.out]; simp only [rightI, opnds, knownB, Hbb.out, Int.toNat_natCast, Hcf.out]; simp [inB]; exact beq_dec _ _, bdrewN hB _⟩
    · -- 8
      clear hkn
      go_wp2_with fail
      refine (operands_any _ _).mono ?_
      rintro e w' ⟨rfl, rfl⟩
      rw [show opnds 8 = 0 from rfl]
      by_cases hy : y = 0
      · subst hy
        go_wp2_with fail
        refine (operands_any _ _).mono ?_
        rintro e w' ⟨rfl, rfl⟩
        rw [show opnds 8 = 0 from rfl]
        by_cases hx : x = 0
        · subst hx
          go_wp2_with fail
          go_ret
          exact ⟨by rw [Hr.out]; simp [rightI, opnds, knownB, inB], hB⟩
        · go_wp2_with fail
          go_ret
          exact ⟨by rw [Hr.out]; simp [rightI, opnds, hx], hB⟩
      · go_wp2_with fail
        go_ret
        exact ⟨by rw [Hr.out]; simp [rightI, opnds, hy], hB⟩
    · -- 9
      clear hkn
      go_wp2_with fail
      refine (operands_any _ _).mono ?_
      rintro e w' ⟨rfl, rfl⟩
      rw [show opnds 9 = 0 from rfl]
      by_cases hy : y = 0
      · subst hy
        go_wp2_with fail
        refine (operands_any _ _).mono ?_
        rintro e w' ⟨rfl, rfl⟩
        rw [show opnds 9 = 0 from rfl]
        by_cases hx : x = 0
        · subst hx
          go_wp2_with fail
          go_ret
          exact ⟨by rw [Hr.out]; simp [rightI, opnds, knownB, inB], hB⟩
        · go_wp2_with fail
          go_ret
          exact ⟨by rw [Hr.out]; simp [rightI, opnds, hx], hB⟩
      · go_wp2_with fail
        go_ret
        exact ⟨by rw [Hr.out]; simp [rightI, opnds, hy], hB⟩
    · -- 10
      clear hkn
      go_wp2_with fail
      refine (operands_any _ _).mono ?_
      rintro e w' ⟨rfl, rfl⟩
      rw [show opnds 10 = 1 from rfl]
      by_cases hy : y = 0
      · subst hy
        go_wp2_with fail
        refine (operands_any _ _).mono ?_
        rintro e w' ⟨rfl, rfl⟩
        rw [show opnds 10 = 1 from rfl]
        go_wp2_with fail
        refine (in_any _ _ _ _).mono ?_
        rintro e w' ⟨rfl, rfl⟩
        go_wp2_with fail
        go_ret
        exact ⟨by rw [Hr.out]; simp [rightI, opnds, knownB]; simp [inB], hB⟩
      · go_wp2_with fail
        go_ret
        exact ⟨by rw [Hr.out]; simp [rightI, opnds, hy], hB⟩
    · -- 11
      clear hkn
      go_wp2_with fail
      refine (operands_any _ _).mono ?_
      rintro e w' ⟨rfl, rfl⟩
      rw [show opnds 11 = 1 from rfl]
      by_cases hy : y = 0
      · subst hy
        go_wp2_with fail
        refine (operands_any _ _).mono ?_
        rintro e w' ⟨rfl, rfl⟩
        rw [show opnds 11 = 1 from rfl]
        go_wp2_with fail
        refine (in_any _ _ _ _).mono ?_
        rintro e w' ⟨rfl, rfl⟩
        go_wp2_with fail
        go_ret
        exact ⟨by rw [Hr.out]; simp [rightI, opnds, knownB]; simp [inB], hB⟩
      · go_wp2_with fail
        go_ret
        exact ⟨by rw [Hr.out]; simp [rightI, opnds, hy], hB⟩
    · -- 12
      clear hkn
      go_wp2_with fail
      refine (operands_any _ _).mono ?_
      rintro e w' ⟨rfl, rfl⟩
      rw [show opnds 12 = 1 from rfl]
      by_cases hy : y = 0
      · subst hy
        go_wp2_with fail
        refine (operands_any _ _).mono ?_
        rintro e w' ⟨rfl, rfl⟩
        rw [show opnds 12 = 1 from rfl]
        go_wp2_with fail
        refine (in_any _ _ _ _).mono ?_
        rintro e w' ⟨rfl, rfl⟩
        go_wp2_with fail
        go_ret
        exact ⟨by rw [Hr.out]; simp [rightI, opnds, knownB]; simp [inB], hB⟩
      · go_wp2_with fail
        go_ret
        exact ⟨by rw [Hr.out]; simp [rightI, opnds, hy], hB⟩
    · -- 13
      clear hkn
      go_wp2_with fail
      refine (operands_any _ _).mono ?_
      rintro e w' ⟨rfl, rfl⟩
      rw [show opnds 13 = 2 from rfl]
      go_wp2_with fail
      refine (operands_any _ _).mono ?_
      rintro e w' ⟨rfl, rfl⟩
      rw [show opnds 13 = 2 from rfl]
      by_cases hx : 0 ≤ x ∧ x ≤ l - 1
      · have Hx : Hid (inB x 0 (l - 1) = true) := by show _ = _; simp [inB, hx]
        by_cases hy : 1 ≤ y ∧ y ≤ 1000
        · obtain ⟨m, rfl⟩ := Int.eq_ofNat_of_zero_le (show 0 ≤ y by omega)
          have Hy : Hid (inB (m : Int) 1 1000 = true) := by show _ = _; simp [inB, hy]
          by_cases hm : k + m < code.length
          · have Hrr : Hid (rightB nt fs c l code k = ((code.drop (k + 1)).take m).all (fun i => i.op == 14)) := by
              show _ = _
              rw [Hr.out]; simp [rightI, opnds, knownB, Hx.out, Hy.out]; simp [inB]; intro; omega
            have hls : ((code.drop (k + 1)).take m).length = m := by simp; omega
            go_wp2_with fail
            refine (in_any _ _ _ _).mono ?_
            rintro e w' ⟨rfl, rfl⟩
            rw [Hx.out]
            go_wp2_with fail
            refine (in_any _ _ _ _).mono ?_
            rintro e w' ⟨rfl, rfl⟩
            rw [Hy.out]
            go_wp2_with fail
            go_loop [8] (fun i => ∃ j : Nat, j ≤ m ∧ i = .int .i64 ((j : Int) + 1) ∧ Hid ((((code.drop (k + 1)).take m).take j).all (fun i => i.op == 14) = true)) (fun i => m + 1 - (intOf i).toNat)
            case atStart => exact ⟨0, Nat.zero_le _, rfl, rfl⟩
            case round =>
              obtain ⟨j, hj, rfl, hall⟩ := hrel
              by_cases hjl : j < m
              · obtain ⟨b', off', cc', fd', _, hbl', c0, _⟩ := code_at (w := w) (v := .slice (some ⟨b, off, none⟩) code.length cc) (l := code) ⟨_, cc, rfl, hlc, fun _ => ⟨b, off, rfl, hlt, Hcc.out⟩⟩ (k + (j + 1)) (by omega)
                have hee := (Value.slice.inj fd').1
                cases hee
                have d0 := Hcell.out _ _ _ (by have := hB3.size; omega) ((hB3.cell (p := ⟨b, off + (k + (j + 1)) * 3, none⟩) hlt).trans c0)
                have hsg := sub_getD code (k + 1) m j hjl
                have hkj : k + 1 + j = k + (j + 1) := by omega
                rw [hkj] at hsg
                rw [← hsg] at d0
                have Hn := Lib.hid (jumps_next _ j (by omega) hall.out)
                have Hh := Lib.hid (jumps_hit ((code.drop (k + 1)).take m) j (by omega))
                generalize ((code.drop (k + 1)).take m).getD j default = ii at *
                obtain ⟨o', x', y'⟩ := ii
                simp only at d0
                clear c0 fd' hsg
                by_cases ho : o' = 14
                · have hN := Lib.hid (Hn.out ho)
                  subst ho
                  go_wp2_with fail
                  go_round
                  case rel => exact ⟨j + 1, by omega, by go_num, hN⟩
                  case measure => simp [intOf]; omega
                · have hN := Lib.hid (Hh.out ho)
                  have hob : (o' == 14) = false := beq_eq_false_iff_ne.2 ho
                  go_wp2_with fail
                  go_ret
                  exact ⟨by rw [Hrr.out, hN.out]; rfl, hB⟩
              · have hall' := hall.out
                rw [List.take_of_length_le (by omega)] at hall'
                have hA := Lib.hid hall'
                clear hall'
                go_wp2_with fail
                go_ret
                exact ⟨by rw [Hrr.out, hA.out]; rfl, hB⟩
          · go_wp2_with fail
            refine (in_any _ _ _ _).mono ?_
            rintro e w' ⟨rfl, rfl⟩
            rw [Hx.out]
            go_wp2_with fail
            refine (in_any _ _ _ _).mono ?_
            rintro e w' ⟨rfl, rfl⟩
            rw [Hy.out]
            go_wp2_with fail
            go_ret
            exact ⟨by rw [Hr.out]; simp [rightI, opnds, knownB, Hx.out, Hy.out] <;> simp [inB] <;> omega, hB⟩
        · have Hy : Hid (inB y 1 1000 = false) := by show _ = _; simp [inB]; omega
          go_wp2_with fail
          refine (in_any _ _ _ _).mono ?_
          rintro e w' ⟨rfl, rfl⟩
          rw [Hx.out]
          go_wp2_with fail
          refine (in_any _ _ _ _).mono ?_
          rintro e w' ⟨rfl, rfl⟩
          rw [Hy.out]
          go_wp2_with fail
          go_ret
          exact ⟨by rw [Hr.out]; simp [rightI, opnds, knownB, Hx.out, Hy.out] <;> simp [inB], hB⟩
      · have Hx : Hid (inB x 0 (l - 1) = false) := by show _ = _; simp [inB]; omega
        go_wp2_with fail
        refine (in_any _ _ _ _).mono ?_
        rintro e w' ⟨rfl, rfl⟩
        rw [Hx.out]
        go_wp2_with fail
        go_ret
        exact ⟨by rw [Hr.out]; simp [rightI, opnds, knownB, Hx.out] <;> simp [inB], hB⟩
    · -- 14
      clear hkn
      go_wp2_with fail
      refine (operands_any _ _).mono ?_
      rintro e w' ⟨rfl, rfl⟩
      rw [show opnds 14 = 1 from rfl]
      by_cases hy : y = 0
      · subst hy
        go_wp2_with fail
        refine (operands_any _ _).mono ?_
        rintro e w' ⟨rfl, rfl⟩
        rw [show opnds 14 = 1 from rfl]
        go_wp2_with fail
        refine (in_any _ _ _ _).mono ?_
        rintro e w' ⟨rfl, rfl⟩
        go_wp2_with fail
        go_ret
        exact ⟨by rw [Hr.out]; simp [rightI, opnds, knownB]; simp [inB], hB⟩
      · go_wp2_with fail
        go_ret
        exact ⟨by rw [Hr.out]; simp [rightI, opnds, hy], hB⟩
    · -- 15
      clear hkn
      go_wp2_with fail
      refine (operands_any _ _).mono ?_
      rintro e w' ⟨rfl, rfl⟩
      rw [show opnds 15 = 1 from rfl]
      by_cases hy : y = 0
      · subst hy
        go_wp2_with fail
        refine (operands_any _ _).mono ?_
        rintro e w' ⟨rfl, rfl⟩
        rw [show opnds 15 = 1 from rfl]
        go_wp2_with fail
        refine (arity_any _ _).mono ?_
        rintro e w' ⟨rfl, rfl⟩
        go_wp2_with fail
        go_ret
        exact ⟨(ret_bool (a := decide (0 < ref46_arity x)) (by rw [arity_gt, Hr.out]; simp [rightI, opnds, knownB]; simp [inB])), hB⟩
      · go_wp2_with fail
        go_ret
        exact ⟨by rw [Hr.out]; simp [rightI, opnds, hy], hB⟩
    · -- 16
      clear hkn
      go_wp2_with fail
      refine (operands_any _ _).mono ?_
      rintro e w' ⟨rfl, rfl⟩
      rw [show opnds 16 = 1 from rfl]
      by_cases hy : y = 0
      · subst hy
        go_wp2_with fail
        refine (operands_any _ _).mono ?_
        rintro e w' ⟨rfl, rfl⟩
        rw [show opnds 16 = 1 from rfl]
        go_wp2_with fail
        refine (in_any _ _ _ _).mono ?_
        rintro e w' ⟨rfl, rfl⟩
        go_wp2_with fail
        go_ret
        exact ⟨by rw [Hr.out]; simp [rightI, opnds, knownB]; simp [inB], hB⟩
      · go_wp2_with fail
        go_ret
        exact ⟨by rw [Hr.out]; simp [rightI, opnds, hy], hB⟩
end Go.Proofs.YtidffjlpldalpaaGreatDoor
