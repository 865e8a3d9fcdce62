/- Valid of the program. -/
import Derived.Test.YtidffjlpldalpaaGreatDoorT5
set_option linter.unusedVariables false
set_option linter.unusedSimpArgs false
namespace Go.Proofs.YtidffjlpldalpaaGreatDoor
open Go Go.RowKit

theorem range_next (k : Nat) (q : Nat → Bool) (h : (List.range k).all q = true) (hq : q k = true) : (List.range (k + 1)).all q = true := by
  rw [List.range_succ, List.all_append, h]; simp [hq]
theorem range_hit (n k : Nat) (q : Nat → Bool) (hk : k < n) (hq : q k = false) : (List.range n).all q = false := by
  rw [List.all_eq_false]; exact ⟨k, by simpa using hk, by simp [hq]⟩
theorem rightsB_eq (p : ProgD) (f : FunD) : rightsB p f = (List.range f.code.length).all fun k => rightB p.texts.length p.funs f.c f.l f.code k := rfl
theorem main_c0 (p : ProgD) (h : inB p.main 0 ((p.funs.length : Int) - 1) = false) : mainB p = false := by unfold mainB; rw [h]; rfl
theorem main_c1 (p : ProgD) (h : inB p.main 0 ((p.funs.length : Int) - 1) = true) (n : Nat) (hn : p.main = n) : mainB p = ((p.funs.getD n default).c == 0) := by unfold mainB; rw [h, hn]; simp only [Int.toNat_natCast, Bool.true_and]; exact (beq_dec _ _).symm
theorem bad_head (f : FunD) (h : headB f = false) : badHead f = true := by unfold badHead; rw [h]; rfl
theorem good_head (f : FunD) (h : headB f = true) : badHead f = false := by unfold badHead; rw [h]; rfl
theorem bad_rights (p : ProgD) (f : FunD) (h : rightsB p f = false) : badRights p f = true := by unfold badRights; rw [h]; rfl
theorem good_rights (p : ProgD) (f : FunD) (h : rightsB p f = true) : badRights p f = false := by unfold badRights; rw [h]; rfl
theorem heads_at (p : ProgD) (h : p.funs.any badHead = false) (k : Nat) (hk : k < p.funs.length) : headB (p.funs.getD k default) = true := by
  have := List.any_eq_false.1 h _ (getD_mem default p.funs k hk)
  simpa [badHead] using this
set_option maxHeartbeats 4000000 in
set_option maxRecDepth 100000 in
theorem valid_any (fv tv : Value) (p : ProgD) (w : World) (h : IsProg w fv tv p) (hfl : p.funs.length ≤ 1000000) (htl : p.texts.length ≤ 1000000) (HQ : ∀ s ∈ p.texts, QuotedOk s) :
    Calls Tryz.prog 9 #[.agg #[fv, tv, .int .i64 p.main]] w (ValidOk p w) := by
  have Hp := Lib.hid h
  have HQ' := Lib.hid HQ
  obtain ⟨⟨⟨fa, fc, rfl, hfc, _⟩, _⟩, ⟨ta, tc, rfl, htc, _⟩⟩ := h
  clear HQ
  obtain ⟨fs, ts, main⟩ := p
  simp only at hfl htl hfc htc ⊢
  have Hf : Hid (IsFuns w (.slice fa fs.length fc) fs) := Hp.out.1
  have Ht : Hid (IsTexts w (.slice ta ts.length tc) ts) := Hp.out.2
  simp only at Hp HQ'
  clear Hp
  have hs0 : Below w.heap.size w (w.alloc (.cells #[.slice fa fs.length fc, .slice ta ts.length tc, .int .i64 main] 25)) := (Below.refl _ _).alloc (Nat.le_refl _) _
  by_cases h0 : inB (fs.length : Int) 1 4096 = true
  rotate_left
  · have h0' : inB (fs.length : Int) 1 4096 = false := by simpa using h0
    have H0 := Lib.hid h0'
    clear h0 h0'
    go_enter Tryz.func9, Tryz.ntmps9
    go_wp2_with fail
    refine (within_any _ _ _ _).mono ?_
    rintro e w' ⟨rfl, rfl⟩
    rw [H0.out]
    go_wp2_with fail
    go_ret
    exact ⟨by rw [valid_c0 _ H0.out]; rfl, hs0⟩
  · have H0 := Lib.hid h0
    clear h0
    by_cases h1 : ts.length ≤ 1000
    rotate_left
    · go_enter Tryz.func9, Tryz.ntmps9
      go_wp2_with fail
      refine (within_any _ _ _ _).mono ?_
      rintro e w' ⟨rfl, rfl⟩
      rw [H0.out]
      go_wp2_with fail
      go_ret
      exact ⟨by rw [valid_c1 _ h1]; rfl, hs0⟩
    · have g0 : ∀ o v, (#[Value.slice fa fs.length fc, .slice ta ts.length tc, .int .i64 main] : Array Value)[o]? = some v → (w.alloc (.cells #[.slice fa fs.length fc, .slice ta ts.length tc, .int .i64 main] 25)).cell? ⟨w.heap.size, o, none⟩ = some v := fun o v hv => by rw [cell_new]; exact hv
      have hs1 : (w.alloc (.cells #[.slice fa fs.length fc, .slice ta ts.length tc, .int .i64 main] 25)).heap.size = w.heap.size + 1 := by simp
      go_enter Tryz.func9, Tryz.ntmps9
      go_wp2_with fail
      refine (within_any _ _ _ _).mono ?_
      rintro e w' ⟨rfl, rfl⟩
      rw [H0.out]
      go_wp2_with fail
      generalize w.alloc (.cells #[.slice fa fs.length fc, .slice ta ts.length tc, .int .i64 main] 25) = W0 at *
      refine (containsT_any _ ts _ (IsRow.below Ht.out hs0) (by omega) HQ'.out).mono ?_
      rintro e w1 ⟨rfl, hb1⟩
      have hb01 : Below w.heap.size w w1 := hs0.trans (hb1.mono (by omega))
      have g1 : ∀ o v, (#[Value.slice fa fs.length fc, .slice ta ts.length tc, .int .i64 main] : Array Value)[o]? = some v → w1.cell? ⟨w.heap.size, o, none⟩ = some v := fun o v hv => (hb1.cell (p := ⟨w.heap.size, o, none⟩) (by simp; omega)).trans (g0 o v hv)
      have hz1 : w.heap.size + 1 ≤ w1.heap.size := by have := hb1.size; omega
      clear g0
      obtain ⟨b2, h2⟩ : ∃ b2, ts.any notQ = b2 := ⟨_, rfl⟩
      have H2 := Lib.hid h2
      rw [h2]
      clear h2
      cases b2
      rotate_left
      · go_wp2_with fail
        go_ret
        exact ⟨by rw [valid_c2 _ H2.out]; rfl, hb01⟩
      · have p0 := g1 0 _ rfl
        have G1 := Lib.hid g1
        clear g1
        go_wp2_with fail
        go_loopw [27] (fun i wr => (∃ k : Nat, k ≤ fs.length ∧ i = .int .i64 k ∧ Hid ((fs.take k).any badHead = false)) ∧ Below (w.heap.size + 1) w1 wr) (fun i _ => fs.length - (intOf i).toNat)
        case atStart => exact ⟨⟨0, Nat.zero_le _, rfl, rfl⟩, Below.refl _ _⟩
        case round =>
          obtain ⟨⟨k, hk, rfl, hno⟩, hbr⟩ := hrel
          have hbw : Below w.heap.size w wr := hb01.trans (hbr.mono (by omega))
          by_cases hkl : k < fs.length
          · obtain ⟨b, off, fc', fd, _, hbl, c0, c1, c2, c3⟩ := Hf.out.at' k hkl
            obtain rfl := (Value.slice.inj fd).1
            have d0 := (hbw.cell (p := ⟨b, off + k * 4, none⟩) hbl).trans c0
            have d1 := (hbw.cell (p := ⟨b, off + k * 4 + 1, none⟩) hbl).trans c1
            have d2 := (hbw.cell (p := ⟨b, off + k * 4 + 2, none⟩) hbl).trans c2
            have d3 := (hbw.cell (p := ⟨b, off + k * 4 + 3, none⟩) hbl).trans c3
            have hcode := Hf.out.2 _ (getD_mem default fs k hkl)
            clear c0 c1 c2 c3 fd
            have Hn := Lib.hid (any_next default fs badHead k hkl hno.out)
            have Hy := Lib.hid (any_hit default fs badHead k hkl)
            generalize fs.getD k default = f at *
            obtain ⟨c, l, d, v, code⟩ := f
            obtain ⟨ca, cc, hv, hcc, _⟩ := hcode
            simp only at hv d0 d1 d2 d3 hcc
            subst hv
            have hbx : Below w.heap.size w (wr.alloc (.cells #[.int .i64 c, .int .i64 l, .int .i64 d, .slice ca code.length cc] 48)) := hbw.alloc hbw.size _
            have hby : Below (w.heap.size + 1) w1 (wr.alloc (.cells #[.int .i64 c, .int .i64 l, .int .i64 d, .slice ca code.length cc] 48)) := hbr.alloc (by have := hbr.size; omega) _
            have Hhd : Hid (∀ v, headB ⟨c, l, d, v, code⟩ = (inB c 0 1000 && (inB l 1 4096 && (inB d 0 4096 && inB (code.length : Int) 1 16384)))) := fun _ => rfl
            obtain ⟨q0, hq0⟩ : ∃ q, inB c 0 1000 = q := ⟨_, rfl⟩
            obtain ⟨q1, hq1⟩ : ∃ q, inB l 1 4096 = q := ⟨_, rfl⟩
            obtain ⟨q2, hq2⟩ : ∃ q, inB d 0 4096 = q := ⟨_, rfl⟩
            obtain ⟨q3, hq3⟩ : ∃ q, inB (code.length : Int) 1 16384 = q := ⟨_, rfl⟩
            have Q0 := Lib.hid hq0
            have Q1 := Lib.hid hq1
            have Q2 := Lib.hid hq2
            have Q3 := Lib.hid hq3
            clear hq0 hq1 hq2 hq3
            go_wp2_with fail
            refine (within_any _ _ _ _).mono ?_
            rintro e w' ⟨rfl, rfl⟩
            rw [Q0.out]
            cases q0
            · go_wp2_with fail
              go_ret
              exact ⟨by rw [valid_c3 _ (Hy.out (bad_head _ (by rw [Hhd.out, Q0.out]; rfl)))]; rfl, hbx⟩
            go_wp2_with fail
            refine (within_any _ _ _ _).mono ?_
            rintro e w' ⟨rfl, rfl⟩
            rw [Q1.out]
            cases q1
            · go_wp2_with fail
              go_ret
              exact ⟨by rw [valid_c3 _ (Hy.out (bad_head _ (by rw [Hhd.out, Q0.out, Q1.out]; rfl)))]; rfl, hbx⟩
            go_wp2_with fail
            refine (within_any _ _ _ _).mono ?_
            rintro e w' ⟨rfl, rfl⟩
            rw [Q2.out]
            cases q2
            · go_wp2_with fail
              go_ret
              exact ⟨by rw [valid_c3 _ (Hy.out (bad_head _ (by rw [Hhd.out, Q0.out, Q1.out, Q2.out]; rfl)))]; rfl, hbx⟩
            go_wp2_with fail
            refine (within_any _ _ _ _).mono ?_
            rintro e w' ⟨rfl, rfl⟩
            rw [Q3.out]
            cases q3
            · go_wp2_with fail
              go_ret
              exact ⟨by rw [valid_c3 _ (Hy.out (bad_head _ (by rw [Hhd.out, Q0.out, Q1.out, Q2.out, Q3.out]; rfl)))]; rfl, hbx⟩
            have hN : Hid ((fs.take (k + 1)).any badHead = false) := Hn.out (good_head _ (by rw [Hhd.out, Q0.out, Q1.out, Q2.out, Q3.out]; rfl))
            go_wp2_with fail
            go_round
            case rel => exact ⟨⟨k + 1, by omega, by go_num, hN⟩, hby⟩
            case measure => simp [intOf]; omega
          · have hh : fs.any badHead = false := by
              have := hno.out
              rw [List.take_of_length_le (by omega)] at this
              exact this
            have Hh := Lib.hid hh
            clear hh hno
            rename World => W1
            have p0' : W1.cell? ⟨w.heap.size, 0, none⟩ = _ := (hbr.cell (p := ⟨w.heap.size, 0, none⟩) (Nat.lt_succ_self _)).trans (G1.out 0 _ rfl)
            go_wp2_with fail
            go_loopw [58] (fun i wr => (∃ k : Nat, k ≤ fs.length ∧ i = .int .i64 k ∧ Hid ((fs.take k).any (badRights ⟨fs, ts, main⟩) = false)) ∧ Below (w.heap.size + 1) w1 wr) (fun i _ => fs.length - (intOf i).toNat)
            case atStart => exact ⟨⟨0, Nat.zero_le _, rfl, rfl⟩, hbr⟩
            case round =>
              rename World => V2
              obtain ⟨⟨k, hk, rfl, hno⟩, hbr⟩ := hrel
              have hbw : Below w.heap.size w V2 := hb01.trans (hbr.mono (by omega))
              have hsz := hbr.size
              by_cases hkl : k < fs.length
              · obtain ⟨b, off, fc', fd, _, hbl, c0, c1, c2, c3⟩ := Hf.out.at' k hkl
                obtain rfl := (Value.slice.inj fd).1
                have d0 := (hbw.cell (p := ⟨b, off + k * 4, none⟩) hbl).trans c0
                have d1 := (hbw.cell (p := ⟨b, off + k * 4 + 1, none⟩) hbl).trans c1
                have d2 := (hbw.cell (p := ⟨b, off + k * 4 + 2, none⟩) hbl).trans c2
                have d3 := (hbw.cell (p := ⟨b, off + k * 4 + 3, none⟩) hbl).trans c3
                have hcode := Hf.out.2 _ (getD_mem default fs k hkl)
                have hhead := heads_at ⟨fs, ts, main⟩ Hh.out k hkl
                clear c0 c1 c2 c3 fd
                have Hn := Lib.hid (any_next default fs (badRights ⟨fs, ts, main⟩) k hkl hno.out)
                have Hy := Lib.hid (any_hit default fs (badRights ⟨fs, ts, main⟩) k hkl)
                simp only at hhead
                generalize fs.getD k default = f at *
                obtain ⟨c, l, d, v, code⟩ := f
                have Hcode : Hid (IsCode w v code) := hcode
                obtain ⟨ca, cc, hv, hcc, _⟩ := hcode
                simp only at hv d0 d1 d2 d3 hcc
                subst hv
                simp only [headB, inB, Bool.and_eq_true, decide_eq_true_eq] at hhead
                obtain ⟨⟨hh0, hh1⟩, ⟨hh2, hh3⟩, ⟨hh4, hh5⟩, ⟨hh6, hh7⟩⟩ := hhead
                have hcl : code.length ≤ 16384 := by omega
                have hbx : Below w.heap.size w (V2.alloc (.cells #[.int .i64 c, .int .i64 l, .int .i64 d, .slice ca code.length cc] 48)) := hbw.alloc hbw.size _
                have hby : Below (w.heap.size + 1) w1 (V2.alloc (.cells #[.int .i64 c, .int .i64 l, .int .i64 d, .slice ca code.length cc] 48)) := hbr.alloc (by omega) _
                have g2 : ∀ o v, (#[Value.int .i64 c, .int .i64 l, .int .i64 d, .slice ca code.length cc] : Array Value)[o]? = some v → (V2.alloc (.cells #[.int .i64 c, .int .i64 l, .int .i64 d, .slice ca code.length cc] 48)).cell? ⟨V2.heap.size, o, none⟩ = some v := fun o v hv => by rw [cell_new]; exact hv
                have hsw : (V2.alloc (.cells #[.int .i64 c, .int .i64 l, .int .i64 d, .slice ca code.length cc] 48)).heap.size = V2.heap.size + 1 := by simp
                have q3 := g2 3 _ rfl
                have Hrs : Hid (rightsB ⟨fs, ts, main⟩ ⟨c, l, d, .slice ca code.length cc, code⟩ = (List.range code.length).all fun k => rightB ts.length fs c l code k) := rightsB_eq _ _
                go_wp2_with fail
                generalize (V2.alloc (.cells #[.int .i64 c, .int .i64 l, .int .i64 d, .slice ca code.length cc] 48)) = W2 at *
                go_loopw [65] (fun i wr => (∃ j : Nat, j ≤ code.length ∧ i = .int .i64 j ∧ Hid ((List.range j).all (fun k => rightB ts.length fs c l code k) = true)) ∧ Below (V2.heap.size + 1) W2 wr) (fun i _ => code.length - (intOf i).toNat)
                case atStart => exact ⟨⟨0, Nat.zero_le _, rfl, rfl⟩, Below.refl _ _⟩
                case round =>
                  obtain ⟨⟨j, hj, rfl, hall⟩, hbr3⟩ := hrel
                  have hsz3 := hbr3.size
                  have hby3 : Below (w.heap.size + 1) w1 wr := hby.trans (hbr3.mono (by omega))
                  have hbx3 : Below w.heap.size w wr := hbx.trans (hbr3.mono (by omega))
                  by_cases hjl : j < code.length
                  · have p0 : wr.cell? ⟨w.heap.size, 0, none⟩ = _ := (hby3.cell (p := ⟨w.heap.size, 0, none⟩) (Nat.lt_succ_self _)).trans (G1.out 0 _ rfl)
                    have p1 : wr.cell? ⟨w.heap.size, 1, none⟩ = _ := (hby3.cell (p := ⟨w.heap.size, 1, none⟩) (Nat.lt_succ_self _)).trans (G1.out 1 _ rfl)
                    have p2 : wr.cell? ⟨w.heap.size, 2, none⟩ = _ := (hby3.cell (p := ⟨w.heap.size, 2, none⟩) (Nat.lt_succ_self _)).trans (G1.out 2 _ rfl)
                    have e0 : wr.cell? ⟨V2.heap.size, 0, none⟩ = _ := (hbr3.cell (p := ⟨V2.heap.size, 0, none⟩) (Nat.lt_succ_self _)).trans (g2 0 _ rfl)
                    have e1 : wr.cell? ⟨V2.heap.size, 1, none⟩ = _ := (hbr3.cell (p := ⟨V2.heap.size, 1, none⟩) (Nat.lt_succ_self _)).trans (g2 1 _ rfl)
                    have e2 : wr.cell? ⟨V2.heap.size, 2, none⟩ = _ := (hbr3.cell (p := ⟨V2.heap.size, 2, none⟩) (Nat.lt_succ_self _)).trans (g2 2 _ rfl)
                    have e3 : wr.cell? ⟨V2.heap.size, 3, none⟩ = _ := (hbr3.cell (p := ⟨V2.heap.size, 3, none⟩) (Nat.lt_succ_self _)).trans (g2 3 _ rfl)
                    have Hy3 := Lib.hid (range_hit code.length j (fun k => rightB ts.length fs c l code k) hjl)
                    have Hn3 := Lib.hid (range_next j (fun k => rightB ts.length fs c l code k) hall.out)
                    have hRf := IsFuns.below Hf.out hbx3
                    have hRc := IsRow.below Hcode.out hbx3
                    have HR := Lib.hid (right_any _ fs ta ts.length tc main c l d _ code j wr hRf (by omega) (by omega) hh0 hh1 hh2 hh3 hRc (by omega) hjl)
                    clear hRf hRc g2 d0 d1 d2 d3
                    go_wp2_with fail
                    refine HR.out.mono ?_
                    rintro e w' ⟨rfl, hb4⟩
                    have hby4 : Below (w.heap.size + 1) w1 w' := hby3.trans (hb4.mono (by omega))
                    have hbr4 : Below (V2.heap.size + 1) W2 w' := hbr3.trans (hb4.mono (by omega))
                    have hbx4 : Below w.heap.size w w' := hbx3.trans (hb4.mono (by omega))
                    obtain ⟨q, hq⟩ : ∃ q, rightB ts.length fs c l code j = q := ⟨_, rfl⟩
                    have Q := Lib.hid hq
                    rw [hq]
                    clear hq
                    cases q
                    · go_wp2_with fail
                      go_ret
                      exact ⟨by rw [valid_c4 _ (Hy.out (bad_rights _ _ (by rw [Hrs.out]; exact Hy3.out Q.out)))]; rfl, hbx4⟩
                    · have hN : Hid ((List.range (j + 1)).all (fun k => rightB ts.length fs c l code k) = true) := Hn3.out Q.out
                      go_wp2_with fail
                      go_round
                      case rel => exact ⟨⟨j + 1, by omega, by go_num, hN⟩, hbr4⟩
                      case measure => simp [intOf]; omega
                  · have hje : j = code.length := by omega
                    have hN : Hid ((fs.take (k + 1)).any (badRights ⟨fs, ts, main⟩) = false) := Hn.out (good_rights _ _ (by rw [Hrs.out, ← hje]; exact hall.out))
                    go_wp2_with fail
                    go_round
                    case rel => exact ⟨⟨k + 1, by omega, by go_num, hN⟩, hby3⟩
                    case measure => simp [intOf]; omega
              · have hr : fs.any (badRights ⟨fs, ts, main⟩) = false := by
                  have := hno.out
                  rw [List.take_of_length_le (by omega)] at this
                  exact this
                have Hv : Hid (validB ⟨fs, ts, main⟩ = mainB ⟨fs, ts, main⟩) := valid_ok _ H0.out h1 H2.out Hh.out hr
                clear hr hno
                have p0 : V2.cell? ⟨w.heap.size, 0, none⟩ = _ := (hbr.cell (p := ⟨w.heap.size, 0, none⟩) (Nat.lt_succ_self _)).trans (G1.out 0 _ rfl)
                have p2 : V2.cell? ⟨w.heap.size, 2, none⟩ = _ := (hbr.cell (p := ⟨w.heap.size, 2, none⟩) (Nat.lt_succ_self _)).trans (G1.out 2 _ rfl)
                obtain ⟨q, hq⟩ : ∃ q, inB main 0 ((fs.length : Int) - 1) = q := ⟨_, rfl⟩
                have Q := Lib.hid hq
                cases q
                · clear hq
                  go_wp2_with fail
                  refine (within_any _ _ _ _).mono ?_
                  rintro e w' ⟨rfl, rfl⟩
                  rw [Q.out]
                  go_wp2_with fail
                  go_ret
                  exact ⟨by rw [Hv.out, main_c0 _ Q.out]; rfl, hbw⟩
                · have hx0 : 0 ≤ main ∧ main ≤ (fs.length : Int) - 1 := by simpa [inB] using hq
                  clear hq
                  obtain ⟨n, rfl⟩ := Int.eq_ofNat_of_zero_le hx0.1
                  have hn : n < fs.length := by omega
                  obtain ⟨b, off, fc', fd, _, hbl, c0, _⟩ := Hf.out.at' n hn
                  obtain rfl := (Value.slice.inj fd).1
                  have d0 := (hbw.cell (p := ⟨b, off + n * 4, none⟩) hbl).trans c0
                  have Hm : Hid (mainB ⟨fs, ts, n⟩ = ((fs.getD n default).c == 0)) := main_c1 _ Q.out n rfl
                  generalize (fs.getD n default).c = cf at *
                  clear c0 fd
                  go_wp2_with fail
                  refine (within_any _ _ _ _).mono ?_
                  rintro e w' ⟨rfl, rfl⟩
                  rw [Q.out]
                  go_wp2_with fail
                  go_ret
                  exact ⟨by rw [Hv.out, Hm.out]; rfl, hbw⟩
end Go.Proofs.YtidffjlpldalpaaGreatDoor
