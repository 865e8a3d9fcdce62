/- The reference's Targets. -/
import Derived.Test.YtidolpcbbbakmaaDc3
namespace Go.Proofs.Ytidolpcbbbakmaa
open Go Go.RowKit
theorem new_heap (w : World) (o : Obj) : (w.alloc o).heap[w.heap.size]? = some o := by simp [World.alloc, -World.alloc_eq]
theorem cell_one_new' (w : World) (x : Value) (t : TypeId) (n : Nat) (h : w.heap.size = n) : ∀ j u, [x][j]? = some u → (w.alloc (.cells #[x] t)).cell? ((⟨n, 0, none⟩ : Addr).add j) = some u := by subst h; exact cell_one_new _ _ _
set_option maxHeartbeats 2000000 in
set_option maxRecDepth 100000 in
theorem rTargets_any (cp lc dp at_ : Int) (v : Value) (code : List Ins) (w : World) (h : IsCode w v code) (hl : code.length ≤ 1000000) :
    Calls Try.prog 31 #[.agg #[.int .i64 cp, .int .i64 lc, .int .i64 dp, v], .int .i64 at_] w (TgOk code at_ w) := by
  obtain ⟨a, c, rfl, hlc, hcell⟩ := h
  by_cases hr : at_ < 0 ∨ (code.length : Int) ≤ at_
  · have ht : Hid (tgT code at_ = ([], 2)) := by show _ = _; unfold tgT; rw [if_pos hr]
    have hin : Hid (inB at_ 0 ((code.length : Int) - 1) = false) := by
      show _ = _
      unfold inB; simp only [Bool.and_eq_false_iff, decide_eq_false_iff_not]; omega
    clear hcell
    go_enter Try.func31, Try.ntmps31
    go_wp2_with fail
    refine (in_any _ _ _ _).mono ?_
    rintro e w' ⟨rfl, rfl⟩
    rw [hin.out]
    go_wp2_with fail
    go_ret2
    exact ⟨_, by rw [ht.out]; rfl, by rw [ht.out]; exact rowF_nil _ _, (Below.refl _ _).alloc (Nat.le_refl _) _⟩
  · have hin : Hid (inB at_ 0 ((code.length : Int) - 1) = true) := by
      show _ = _
      unfold inB; simp only [Bool.and_eq_true, decide_eq_true_eq]; omega
    obtain ⟨k, rfl⟩ := Int.eq_ofNat_of_zero_le (show 0 ≤ at_ by omega)
    have hk : k < code.length := by omega
    obtain ⟨b, off, rfl, hlt, hc⟩ := hcell (by omega)
    obtain ⟨c0, c1, c2⟩ := insCells_at code k hk
    have hlen := insCells_length code
    have e0 := hc (k * 3) (by omega)
    have e1 := hc (k * 3 + 1) (by omega)
    have e2 := hc (k * 3 + 2) (by omega)
    rw [c0] at e0; rw [c1, ← Nat.add_assoc] at e1; rw [c2, ← Nat.add_assoc] at e2
    obtain ⟨i, hi⟩ : ∃ i, i = code.getD k default := ⟨_, rfl⟩
    rw [← hi] at e0 e1 e2
    have Hi := Lib.hid hi
    obtain ⟨op, x, y⟩ := i
    simp only at e0 e1 e2
    clear hcell hc c0 c1 c2 hlen hi hr
    have ht0 : tgT code (k : Int) = if knownB op = false then ([], 2) else if op = 13 ∧ inB y 1 1000 = false then ([], 24) else if (tgL ⟨op, x, y⟩ k).any (outB code.length) then ([], 24) else (tgL ⟨op, x, y⟩ k, 0) := by
      unfold tgT
      rw [if_neg (by omega), Int.toNat_natCast, ← Hi.out]
    have Ht := Lib.hid ht0
    clear ht0 Hi
    have hw0 : Below w.heap.size w (w.alloc (.cells #[.int .i64 cp, .int .i64 lc, .int .i64 dp, .slice (some ⟨b, off, none⟩) code.length c] 45)) := (Below.refl _ _).alloc (Nat.le_refl _) _
    go_enter Try.func31, Try.ntmps31
    go_wp2_with fail
    refine (in_any _ _ _ _).mono ?_
    rintro e w' ⟨rfl, rfl⟩
    rw [hin.out]
    go_wp2_with fail
    refine (word_any _ _).mono ?_
    rintro e w2 ⟨rfl, hb2⟩
    have hB2 : Below w.heap.size w w2 := hw0.trans (hb2.mono (by simp))
    have hs2 : w.heap.size + 1 ≤ w2.heap.size := by have := hb2.size; simpa using this
    have f0 := (hB2.cell (p := ⟨b, off + k * 3, none⟩) hlt).trans e0
    have f1 := (hB2.cell (p := ⟨b, off + k * 3 + 1, none⟩) hlt).trans e1
    have f2 := (hB2.cell (p := ⟨b, off + k * 3 + 2, none⟩) hlt).trans e2
    have hf := (hb2.block w.heap.size (by simp)).trans (new_heap w _)
    have hf3 : w2.cell? ⟨w.heap.size, 3, none⟩ = some (.slice (some ⟨b, off, none⟩) code.length c) := by simp [World.cell?, hf]
    have Hf := Lib.hid hf
    clear e0 e1 e2 hb2 hw0 hf
    obtain ⟨bb, hbb⟩ : ∃ bb, knownB op = bb := ⟨_, rfl⟩
    have Hbb := Lib.hid hbb
    cases bb
    · have ht : Hid (tgT code (k : Int) = ([], 2)) := by show _ = _; rw [Ht.out, if_pos hbb]
      rw [unknown_word op hbb]
      clear hbb
      go_wp2_with fail
      go_ret2
      exact ⟨_, by rw [ht.out]; rfl, by rw [ht.out]; exact rowF_nil _ _, hB2⟩
    · have hwd := known_word op hbb
      have Ht : Hid (tgT code (k : Int) = if op = 13 ∧ inB y 1 1000 = false then ([], 24) else if (tgL ⟨op, x, y⟩ k).any (outB code.length) then ([], 24) else (tgL ⟨op, x, y⟩ k, 0)) := by
        show _ = _; rw [Ht.out, if_neg (by rw [hbb]; simp)]
      clear hbb Hbb
      generalize wordS op = wd at *
      by_cases h9 : op = 9 ∨ op = 16
      · have ht : Hid (tgT code (k : Int) = ([], 0)) := by
          show _ = _
          rw [Ht.out, if_neg (by omega)]
          unfold tgL; rw [if_pos h9]; rfl
        clear Ht
        rcases h9 with rfl | rfl
        all_goals
          go_wp2_with fail
          go_loop [9] (fun i => i = .int .i64 0) (fun i => 0)
          case atStart => rfl
          case round =>
            subst hrel
            go_wp2_with fail
            go_ret2
            exact ⟨_, by rw [ht.out]; rfl, by rw [ht.out]; exact rowF_nil _ _, hB2.alloc (by omega) _⟩
      · by_cases h14 : op = 14
        · subst h14
          have hL : Hid (tgL ⟨14, x, y⟩ k = [x]) := rfl
          have Hu : Hid (tgT code (k : Int) = if ([x]).any (outB code.length) then ([], 24) else ([x], 0)) := by
            show _ = _; rw [Ht.out, if_neg (by omega), hL.out]
          clear hL
          obtain ⟨i0, hi, hz0, hz1, hz2⟩ := info_parts info_int
          go_wp2_with (at_builtin; refine wpList_append_own _ rfl _ _ 69 rfl (w.heap.size + 1) 3 i0 (.int .i64 0) 1 8 Try.underlying69 hi hz0 hz1 hz2 rfl (by decide) _ 0 [] rfl ⟨rfl, .inl ⟨rfl, rfl⟩⟩ ⟨w2.heap.size + 1, 0, none⟩ 1 1 [.int .i64 x] rfl rfl ?c1 ?c2 ?c3 ?c4 ?c5 ?_)
          case c1 => exact cell_one_new' _ _ _ _ (by simp)
          case c2 => intro u hu; simp at hu; subst hu; rfl
          case c3 => unfold maxLen; omega
          case c4 => omega
          case c5 => simp; omega
          intro v' W hown3 hgrow3 _
          have hI : IsRow W v' [x].length (ints [x]) := isRow_owns' hown3 rfl
          have Hloc : Hid (∀ b o sp m c, v' = .slice (some ⟨b, o, sp⟩) m c → w.heap.size ≤ b) := fun b o sp m c hv => by have := owns_ge hown3 b o sp m c hv; omega
          have hB3 : Below (w.heap.size + 1) w2 W := (((Below.refl _ _).alloc hs2 _).alloc (by simp; omega) _).grown hgrow3 (by simp; omega) (by intro g hg; cases hg)
          clear hown3 hgrow3
          generalize hLL : [x] = L at hI Hu
          have hLn : L.length ≤ 1000 := by rw [← hLL]; simp
          clear hLL
          have hg3 : W.cell? ⟨w.heap.size, 3, none⟩ = some (.slice (some ⟨b, off, none⟩) code.length c) := (hB3.cell (p := ⟨w.heap.size, 3, none⟩) (by show w.heap.size < _; omega)).trans hf3
          have hB : Below w.heap.size w W := hB2.trans (hB3.mono (by omega))
          have hsW : w.heap.size < W.heap.size := by have := hB3.size; omega
          obtain ⟨va, vc, rfl, hvlc, hvcell⟩ := hI
          have HI := Lib.hid hvcell
          have Hg := Lib.hid hg3
          clear hvcell hg3 hB3 hf3 f0 f1 f2 hwd Hf hlt
          go_wp2_with fail
          go_loopw [9] (fun i wr => ∃ j : Nat, j ≤ L.length ∧ i = .int .i64 j ∧ Hid ((L.take j).any (outB code.length) = false) ∧ Below W.heap.size W wr) (fun i _ => L.length - (intOf i).toNat)
          case atStart => exact ⟨0, Nat.zero_le _, rfl, rfl, Below.refl _ _⟩
          case round =>
            obtain ⟨j, hj, rfl, hno, hbr⟩ := hrel
            have hbw : Below w.heap.size w wr := hB.trans (hbr.mono (by omega))
            by_cases hjl : j < L.length
            · obtain ⟨vb, vo, rfl, hvb, hvc⟩ := HI.out (by omega)
              have hce := hvc j (by rw [ints_length]; exact hjl)
              rw [ints_at _ j hjl, ← hbr.cell (p := ⟨vb, vo + j, none⟩) hvb] at hce
              have hg3 := (hbr.cell (p := ⟨w.heap.size, 3, none⟩) hsW).trans Hg.out
              have Hn := Lib.hid (any_next 0 L (outB code.length) j hjl hno.out)
              have Hy := Lib.hid (any_hit 0 L (outB code.length) j hjl)
              generalize List.getD L j 0 = z at *
              clear hvc HI Hg
              obtain ⟨bb, hbb⟩ : ∃ bb, inB z 0 ((code.length : Int) - 1) = bb := ⟨_, rfl⟩
              have Hbb := Lib.hid hbb
              clear hbb
              go_wp2_with fail
              go_quiet ((go_at_call 25; exact Calls.quiet_of_same ((in_any _ _ _ _).mono fun _ _ h => ⟨h.1, h.2.symm⟩)))
              have hbq : Below w.heap.size w (wr.drewN nq) := bdrewN hbw nq
              have hbr2 : Below W.heap.size W (wr.drewN nq) := bdrewN hbr nq
              generalize wr.drewN nq = wq at hbq hbr2 ⊢
              rw [Hbb.out]
              cases bb
              · have ht : Hid (tgT code (k : Int) = ([], 24)) := by
                  show _ = _
                  rw [Hu.out, if_pos (Hy.out (by unfold outB; rw [Hbb.out]; rfl))]
                go_wp2_with fail
                go_ret2
                exact ⟨_, by rw [ht.out]; rfl, by rw [ht.out]; exact rowF_nil _ _, hbq⟩
              · have hN : Hid ((L.take (j + 1)).any (outB code.length) = false) := Hn.out (by unfold outB; rw [Hbb.out]; rfl)
                go_wp2_with fail
                go_roundw
                case rel => exact ⟨j + 1, by omega, by go_num, hN, hbr2⟩
                case measure => simp [intOf]; omega
            · have hno2 := hno.out
              rw [List.take_of_length_le (by omega)] at hno2
              have ht : Hid (tgT code (k : Int) = (L, 0)) := by
                show _ = _
                rw [Hu.out, if_neg (by rw [hno2]; simp)]
              clear hno2
              go_wp2_with fail
              go_ret2
              refine ⟨_, by rw [ht.out]; rfl, ?_, hbw⟩
              rw [ht.out]
              exact ⟨IsRow.below ⟨_, _, rfl, hvlc, HI.out⟩ hbr, Hloc.out⟩
        · by_cases h13 : op = 13
          · subst h13
            obtain ⟨bb, hbb⟩ : ∃ bb, inB y 1 1000 = bb := ⟨_, rfl⟩
            have Hy := Lib.hid hbb
            cases bb
            · have ht : Hid (tgT code (k : Int) = ([], 24)) := by
                show _ = _
                rw [Ht.out, if_pos ⟨rfl, hbb⟩]
              clear hbb Ht
              go_wp2_with fail
              refine (in_any _ _ _ _).mono ?_
              rintro e w' ⟨rfl, rfl⟩
              rw [Hy.out]
              go_wp2_with fail
              go_ret2
              exact ⟨_, by rw [ht.out]; rfl, by rw [ht.out]; exact rowF_nil _ _, hB2.alloc (by omega) _⟩
            · obtain ⟨y1, y2⟩ : 1 ≤ y ∧ y ≤ 1000 := by
                unfold inB at hbb; simpa using hbb
              clear hbb
              obtain ⟨n, rfl⟩ := Int.eq_ofNat_of_zero_le (show 0 ≤ y by omega)
              have hL : Hid (tgL ⟨13, x, n⟩ k = tgNext k n) := rfl
              have Hu : Hid (tgT code (k : Int) = if (tgNext k n).any (outB code.length) then ([], 24) else (tgNext k n, 0)) := by
                show _ = _; rw [Ht.out, if_neg (by rw [Hy.out]; simp), hL.out]
              clear hL
              obtain ⟨i0, hi, hz0, hz1, hz2⟩ := info_parts info_int
              go_wp2_with fail
              refine (in_any _ _ _ _).mono ?_
              rintro e w' ⟨rfl, rfl⟩
              rw [Hy.out]
              have hs3 : w2.heap.size + 1 ≤ (w2.alloc (.cells #[.int .i64 13, .int .i64 x, .int .i64 n] 54)).heap.size := by simp
              have hi3 := new_heap w2 (.cells #[.int .i64 13, .int .i64 x, .int .i64 n] 54)
              have hB4 : Below (w.heap.size + 1) w2 (w2.alloc (.cells #[.int .i64 13, .int .i64 x, .int .i64 n] 54)) := (Below.refl _ _).alloc hs2 _
              obtain ⟨W4, hW4⟩ : ∃ W4, W4 = w2.alloc (.cells #[.int .i64 13, .int .i64 x, .int .i64 n] 54) := ⟨_, rfl⟩
              go_wp2_with fail
              rw [← hW4] at hs3 hi3 hB4 ⊢
              clear hW4
              have hci : W4.cell? ⟨w2.heap.size, 2, none⟩ = some (.int .i64 n) := by simp [World.cell?, hi3]
              clear hi3
              go_loopw [7, 8] (fun v iv wr => ∃ j : Nat, iv = .int .i64 ((j : Int) + 1) ∧ j ≤ n ∧ Hid (wr.ownsRow (w2.heap.size + 1) 3 1 v j (ints (tgNext k j))) ∧ Below (w2.heap.size + 1) W4 wr) (fun _ iv _ => n + 1 - (intOf iv).toNat)
              case atStart => exact ⟨0, rfl, Nat.zero_le _, ⟨rfl, .inl ⟨rfl, rfl⟩⟩, Below.refl _ _⟩
              case round =>
                obtain ⟨j, rfl, hj, Hown, hbr⟩ := hrel
                have hcj := (hbr.cell (p := ⟨w2.heap.size, 2, none⟩) (Nat.lt_succ_self _)).trans hci
                have hwz : w2.heap.size + 1 ≤ wr.heap.size := by have := hbr.size; omega
                by_cases hjn : j < n
                · go_wp2_with (at_builtin; refine wpList_append_own _ rfl _ _ 69 rfl (w2.heap.size + 1) 3 i0 (.int .i64 0) 1 8 Try.underlying69 hi hz0 hz1 hz2 rfl (by decide) _ j (ints (tgNext k j)) rfl (Hown.out.alloc _) ⟨wr.heap.size, 0, none⟩ 1 1 [.int .i64 ((k : Int) + ((j : Int) + 1))] rfl rfl ?c1 ?c2 ?c3 ?c4 ?c5 ?_)
                  case c1 => exact cell_one_new _ _ _
                  case c2 => intro u hu; simp at hu; subst hu; rfl
                  case c3 => unfold maxLen; omega
                  case c4 => omega
                  case c5 => simp; omega
                  intro v' w5 hown1 hgrow1 _
                  have hb1 : Hid (Below (w2.heap.size + 1) W4 w5) := (hbr.alloc hwz _).grown hgrow1 (by simp; omega) (fun g hg => own_ge Hown.out hg)
                  have hown2 : Hid (w5.ownsRow (w2.heap.size + 1) 3 1 v' (j + 1) (ints (tgNext k (j + 1)))) := by
                    show World.ownsRow _ _ _ _ _ _ _
                    rw [tgNext_succ, show (k : Int) + 1 + j = (k : Int) + ((j : Int) + 1) by omega]; unfold ints at hown1 ⊢; rw [List.map_append]; exact hown1
                  clear hown1 hgrow1 hbr
                  go_wp2_with fail
                  go_roundw
                  case rel => exact ⟨j + 1, by go_num, by omega, hown2, hb1.out⟩
                  case measure => simp [intOf]; omega
                · obtain rfl : j = n := by omega
                  have hI : IsRow wr _ (tgNext k j).length (ints (tgNext k j)) := isRow_owns' Hown.out (tgNext_length k j).symm
                  have Hloc := Lib.hid (fun b o sp m c hv => Nat.le_trans (show w.heap.size ≤ w2.heap.size + 1 by omega) (owns_ge Hown.out b o sp m c hv))
                  have hB3 : Below (w.heap.size + 1) w2 wr := hB4.trans (hbr.mono (by omega))
                  clear hbr Hown hwz
                  rename World => W
                  generalize hLL : tgNext k j = L at hI Hu
                  have hLn : L.length ≤ 1000 := by rw [← hLL]; rw [tgNext_length]; omega
                  clear hLL
                  have hg3 : W.cell? ⟨w.heap.size, 3, none⟩ = some (.slice (some ⟨b, off, none⟩) code.length c) := (hB3.cell (p := ⟨w.heap.size, 3, none⟩) (by show w.heap.size < _; omega)).trans hf3
                  have hB : Below w.heap.size w W := hB2.trans (hB3.mono (by omega))
                  have hsW : w.heap.size < W.heap.size := by have := hB3.size; omega
                  obtain ⟨va, vc, rfl, hvlc, hvcell⟩ := hI
                  have HI := Lib.hid hvcell
                  have Hg := Lib.hid hg3
                  clear hvcell hg3 hB3 hf3 f0 f1 f2 hwd Hf hlt hci
                  go_wp2_with fail
                  go_loopw [9] (fun i wr => ∃ j : Nat, j ≤ L.length ∧ i = .int .i64 j ∧ Hid ((L.take j).any (outB code.length) = false) ∧ Below W.heap.size W wr) (fun i _ => L.length - (intOf i).toNat)
                  case atStart => exact ⟨0, Nat.zero_le _, rfl, rfl, Below.refl _ _⟩
                  case round =>
                    obtain ⟨j, hj, rfl, hno, hbr⟩ := hrel
                    have hbw : Below w.heap.size w wr := hB.trans (hbr.mono (by omega))
                    by_cases hjl : j < L.length
                    · obtain ⟨vb, vo, rfl, hvb, hvc⟩ := HI.out (by omega)
                      have hce := hvc j (by rw [ints_length]; exact hjl)
                      rw [ints_at _ j hjl, ← hbr.cell (p := ⟨vb, vo + j, none⟩) hvb] at hce
                      have hg3 := (hbr.cell (p := ⟨w.heap.size, 3, none⟩) hsW).trans Hg.out
                      have Hn := Lib.hid (any_next 0 L (outB code.length) j hjl hno.out)
                      have Hy := Lib.hid (any_hit 0 L (outB code.length) j hjl)
                      generalize List.getD L j 0 = z at *
                      clear hvc HI Hg
                      obtain ⟨bb, hbb⟩ : ∃ bb, inB z 0 ((code.length : Int) - 1) = bb := ⟨_, rfl⟩
                      have Hbb := Lib.hid hbb
                      clear hbb
                      go_wp2_with fail
                      go_quiet ((go_at_call 25; exact Calls.quiet_of_same ((in_any _ _ _ _).mono fun _ _ h => ⟨h.1, h.2.symm⟩)))
                      have hbq : Below w.heap.size w (wr.drewN nq) := bdrewN hbw nq
                      have hbr2 : Below W.heap.size W (wr.drewN nq) := bdrewN hbr nq
                      generalize wr.drewN nq = wq at hbq hbr2 ⊢
                      rw [Hbb.out]
                      cases bb
                      · have ht : Hid (tgT code (k : Int) = ([], 24)) := by
                          show _ = _
                          rw [Hu.out, if_pos (Hy.out (by unfold outB; rw [Hbb.out]; rfl))]
                        go_wp2_with fail
                        go_ret2
                        exact ⟨_, by rw [ht.out]; rfl, by rw [ht.out]; exact rowF_nil _ _, hbq⟩
                      · have hN : Hid ((L.take (j + 1)).any (outB code.length) = false) := Hn.out (by unfold outB; rw [Hbb.out]; rfl)
                        go_wp2_with fail
                        go_roundw
                        case rel => exact ⟨j + 1, by omega, by go_num, hN, hbr2⟩
                        case measure => simp [intOf]; omega
                    · have hno2 := hno.out
                      rw [List.take_of_length_le (by omega)] at hno2
                      have ht : Hid (tgT code (k : Int) = (L, 0)) := by
                        show _ = _
                        rw [Hu.out, if_neg (by rw [hno2]; simp)]
                      clear hno2
                      go_wp2_with fail
                      go_ret2
                      refine ⟨_, by rw [ht.out]; rfl, ?_, hbw⟩
                      rw [ht.out]
                      exact ⟨IsRow.below ⟨_, _, rfl, hvlc, HI.out⟩ hbr, Hloc.out⟩
          · have n9 : (op == 9) = false := by rw [beq_eq_false_iff_ne]; omega
            have n16 : (op == 16) = false := by rw [beq_eq_false_iff_ne]; omega
            have n14 : (op == 14) = false := by rw [beq_eq_false_iff_ne]; omega
            have n13 : (op == 13) = false := by rw [beq_eq_false_iff_ne]; omega
            have hL : Hid (tgL ⟨op, x, y⟩ k = [(k : Int) + 1]) := by
              show _ = _
              unfold tgL; rw [if_neg h9, if_neg h14, if_neg h13]
            have Hu : Hid (tgT code (k : Int) = if ([(k : Int) + 1]).any (outB code.length) then ([], 24) else ([(k : Int) + 1], 0)) := by
              show _ = _; rw [Ht.out, if_neg (by omega), hL.out]
            clear hL
            obtain ⟨i0, hi, hz0, hz1, hz2⟩ := info_parts info_int
            go_wp2_with (at_builtin; refine wpList_append_own _ rfl _ _ 69 rfl (w.heap.size + 1) 3 i0 (.int .i64 0) 1 8 Try.underlying69 hi hz0 hz1 hz2 rfl (by decide) _ 0 [] rfl ⟨rfl, .inl ⟨rfl, rfl⟩⟩ ⟨w2.heap.size + 1, 0, none⟩ 1 1 [.int .i64 ((k : Int) + 1)] rfl rfl ?c1 ?c2 ?c3 ?c4 ?c5 ?_)
            case c1 => exact cell_one_new' _ _ _ _ (by simp)
            case c2 => intro u hu; simp at hu; subst hu; rfl
            case c3 => unfold maxLen; omega
            case c4 => omega
            case c5 => simp; omega
            intro v' W hown3 hgrow3 _
            have hI : IsRow W v' [(k : Int) + 1].length (ints [(k : Int) + 1]) := isRow_owns' hown3 rfl
            have Hloc : Hid (∀ b o sp m c, v' = .slice (some ⟨b, o, sp⟩) m c → w.heap.size ≤ b) := fun b o sp m c hv => by have := owns_ge hown3 b o sp m c hv; omega
            have hB3 : Below (w.heap.size + 1) w2 W := (((Below.refl _ _).alloc hs2 _).alloc (by simp; omega) _).grown hgrow3 (by simp; omega) (by intro g hg; cases hg)
            clear hown3 hgrow3
            generalize hLL : [(k : Int) + 1] = L at hI Hu
            have hLn : L.length ≤ 1000 := by rw [← hLL]; simp
            clear hLL
            have hg3 : W.cell? ⟨w.heap.size, 3, none⟩ = some (.slice (some ⟨b, off, none⟩) code.length c) := (hB3.cell (p := ⟨w.heap.size, 3, none⟩) (by show w.heap.size < _; omega)).trans hf3
            have hB : Below w.heap.size w W := hB2.trans (hB3.mono (by omega))
            have hsW : w.heap.size < W.heap.size := by have := hB3.size; omega
            obtain ⟨va, vc, rfl, hvlc, hvcell⟩ := hI
            have HI := Lib.hid hvcell
            have Hg := Lib.hid hg3
            clear hvcell hg3 hB3 hf3 f0 f1 f2 hwd Hf hlt
            go_wp2_with fail
            go_loopw [9] (fun i wr => ∃ j : Nat, j ≤ L.length ∧ i = .int .i64 j ∧ Hid ((L.take j).any (outB code.length) = false) ∧ Below W.heap.size W wr) (fun i _ => L.length - (intOf i).toNat)
            case atStart => exact ⟨0, Nat.zero_le _, rfl, rfl, Below.refl _ _⟩
            case round =>
              obtain ⟨j, hj, rfl, hno, hbr⟩ := hrel
              have hbw : Below w.heap.size w wr := hB.trans (hbr.mono (by omega))
              by_cases hjl : j < L.length
              · obtain ⟨vb, vo, rfl, hvb, hvc⟩ := HI.out (by omega)
                have hce := hvc j (by rw [ints_length]; exact hjl)
                rw [ints_at _ j hjl, ← hbr.cell (p := ⟨vb, vo + j, none⟩) hvb] at hce
                have hg3 := (hbr.cell (p := ⟨w.heap.size, 3, none⟩) hsW).trans Hg.out
                have Hn := Lib.hid (any_next 0 L (outB code.length) j hjl hno.out)
                have Hy := Lib.hid (any_hit 0 L (outB code.length) j hjl)
                generalize List.getD L j 0 = z at *
                clear hvc HI Hg
                obtain ⟨bb, hbb⟩ : ∃ bb, inB z 0 ((code.length : Int) - 1) = bb := ⟨_, rfl⟩
                have Hbb := Lib.hid hbb
                clear hbb
                go_wp2_with fail
                go_quiet ((go_at_call 25; exact Calls.quiet_of_same ((in_any _ _ _ _).mono fun _ _ h => ⟨h.1, h.2.symm⟩)))
                have hbq : Below w.heap.size w (wr.drewN nq) := bdrewN hbw nq
                have hbr2 : Below W.heap.size W (wr.drewN nq) := bdrewN hbr nq
                generalize wr.drewN nq = wq at hbq hbr2 ⊢
                rw [Hbb.out]
                cases bb
                · have ht : Hid (tgT code (k : Int) = ([], 24)) := by
                    show _ = _
                    rw [Hu.out, if_pos (Hy.out (by unfold outB; rw [Hbb.out]; rfl))]
                  go_wp2_with fail
                  go_ret2
                  exact ⟨_, by rw [ht.out]; rfl, by rw [ht.out]; exact rowF_nil _ _, hbq⟩
                · have hN : Hid ((L.take (j + 1)).any (outB code.length) = false) := Hn.out (by unfold outB; rw [Hbb.out]; rfl)
                  go_wp2_with fail
                  go_roundw
                  case rel => exact ⟨j + 1, by omega, by go_num, hN, hbr2⟩
                  case measure => simp [intOf]; omega
              · have hno2 := hno.out
                rw [List.take_of_length_le (by omega)] at hno2
                have ht : Hid (tgT code (k : Int) = (L, 0)) := by
                  show _ = _
                  rw [Hu.out, if_neg (by rw [hno2]; simp)]
                clear hno2
                go_wp2_with fail
                go_ret2
                refine ⟨_, by rw [ht.out]; rfl, ?_, hbw⟩
                rw [ht.out]
                exact ⟨IsRow.below ⟨_, _, rfl, hvlc, HI.out⟩ hbr, Hloc.out⟩
end Go.Proofs.Ytidolpcbbbakmaa
