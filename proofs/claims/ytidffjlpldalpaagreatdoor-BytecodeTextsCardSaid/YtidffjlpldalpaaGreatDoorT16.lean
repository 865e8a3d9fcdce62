/- Plain and textual of the reference. Valid of the reference. Put and Sum of the reference. -/
import Derived.Test.YtidffjlpldalpaaGreatDoorT14
import Derived.Test.YtidffjlpldalpaaGreatDoorT15
set_option linter.unusedVariables false
set_option linter.unusedSimpArgs false
namespace Go.Proofs.YtidffjlpldalpaaGreatDoor
open Go Go.RowKit

theorem vis_eq (b : UInt8) : visB b = (((b.toNat : Int) == 10) || showB (b.toNat : Int)) := by
  rw [show ((b.toNat : Int) == 10) = (b == 10) from u8_of b 10 (by decide)]
  unfold visB showB; congr 2 <;> (apply decide_eq_decide.2; omega)
theorem vis_next (s : ByteArray) (k : Nat) (h : k < s.size) (ha : (s.data.toList.take k).all visB = true) (hv : visB s[k] = true) : (s.data.toList.take (k + 1)).all visB = true := by
  rw [take_next s k h, List.all_append, ha]; simp [hv]
def allVis (s : ByteArray) : Bool := s.data.toList.all visB
theorem vis_hit (s : ByteArray) (k : Nat) (h : k < s.size) (hv : visB s[k] = false) : allVis s = false := by
  unfold allVis; rw [List.all_eq_false]
  exact ⟨s[k], by simp [ByteArray.getElem_eq_getElem_data], by simp [hv]⟩
set_option maxRecDepth 100000 in
theorem plain_any (s : ByteArray) (w : World) (hs : s.size ≤ 16384) : Calls Tryz.prog 55 #[.string s] w fun e w' => e = .returned (.bool (allVis s)) ∧ w = w' := by
  go_enter Tryz.func55, Tryz.ntmps55
  go_wp2_with fail
  go_loop [3] (fun i => ∃ k : Nat, k ≤ s.size ∧ i = .int .i64 k ∧ Hid ((s.data.toList.take k).all visB = true)) (fun i => s.size - (intOf i).toNat)
  case atStart => exact ⟨0, Nat.zero_le _, rfl, rfl⟩
  case round =>
    obtain ⟨k, hk, rfl, hall⟩ := hrel
    by_cases hlt : k < s.size
    · obtain ⟨u0, u1⟩ := ub s[k]
      have hv := vis_eq s[k]
      have Hn := Lib.hid (vis_next s k hlt hall.out)
      have Hh := Lib.hid (vis_hit s k hlt)
      by_cases h1 : (s[k].toNat : Int) < 32
      · have h1' : ((s[k].toNat : Int) < 32) = True := eq_true h1
        cases h10 : ((s[k].toNat : Int) == 10)
        · have hb : Hid (allVis s = false) := Hh.out (by rw [hv, h10]; unfold showB; rw [decide_eq_false (by omega)]; rfl)
          clear hv h1
          go_wp2_with fail
          go_ret
          exact ⟨by rw [hb.out]; rfl, rfl⟩
        · have hN : Hid ((s.data.toList.take (k + 1)).all visB = true) := Hn.out (by rw [hv, h10]; rfl)
          clear hv h1
          go_wp2_with fail
          go_round
          case rel => exact ⟨k + 1, by omega, by go_num, hN⟩
          case measure => simp [intOf]; omega
      · have h1' : ((s[k].toNat : Int) < 32) = False := eq_false h1
        by_cases h2 : 126 < (s[k].toNat : Int)
        · have h2' : (126 < (s[k].toNat : Int)) = True := eq_true h2
          cases h10 : ((s[k].toNat : Int) == 10)
          · have hb : Hid (allVis s = false) := Hh.out (by rw [hv, h10]; unfold showB; rw [decide_eq_false (show ¬ (s[k].toNat : Int) ≤ 126 by omega), Bool.and_false]; rfl)
            clear hv h1 h2
            go_wp2_with fail
            go_ret
            exact ⟨by rw [hb.out]; rfl, rfl⟩
          · exfalso; rw [beq_iff_eq] at h10; omega
        · have h2' : (126 < (s[k].toNat : Int)) = False := eq_false h2
          have hN : Hid ((s.data.toList.take (k + 1)).all visB = true) := Hn.out (by rw [hv]; unfold showB; rw [decide_eq_true (show 32 ≤ (s[k].toNat : Int) by omega), decide_eq_true (show (s[k].toNat : Int) ≤ 126 by omega)]; simp)
          clear hv h1 h2
          go_wp2_with fail
          go_round
          case rel => exact ⟨k + 1, by omega, by go_num, hN⟩
          case measure => simp [intOf]; omega
    · have ha : Hid (allVis s = true) := by
        show _ = _
        have := hall.out
        rw [List.take_of_length_le (by simp; omega)] at this
        exact this
      go_wp2_with fail
      go_ret
      exact ⟨by rw [ha.out]; rfl, rfl⟩
theorem textual_any (s : ByteArray) (w : World) : Calls Tryz.prog 28 #[.string s] w fun e w' => e = .returned (.bool (quotedB s)) ∧ w = w' := by
  by_cases hs : s.size ≤ 16384
  · have HP := Lib.hid (plain_any s w hs)
    have hq : Hid (quotedB s = allVis s) := by show _ = _; unfold quotedB; rw [decide_eq_true hs]; rfl
    go_enter Tryz.func28, Tryz.ntmps28
    go_wp2_with fail
    refine HP.out.mono ?_
    rintro e w' ⟨rfl, rfl⟩
    go_wp2_with fail
    go_ret
    exact ⟨by rw [hq.out]; rfl, rfl⟩
  · have hq : Hid (quotedB s = false) := by show _ = _; unfold quotedB; rw [decide_eq_false hs]; rfl
    go_enter Tryz.func28, Tryz.ntmps28
    go_wp2_with fail
    go_ret
    exact ⟨by rw [hq.out]; rfl, rfl⟩

theorem valid_m (p : ProgD) (h : mainB p = false) : validB p = false := by unfold validB; rw [h]; simp
theorem valid_end (p : ProgD) (h0 : inB (p.funs.length : Int) 1 4096 = true) (h1 : p.texts.length ≤ 1000) (h2 : p.texts.any notQ = false) (h3 : p.funs.any badHead = false) (h4 : p.funs.any (badRights p) = false) (hm : mainB p = true) : validB p = true := by
  rw [valid_ok p h0 h1 h2 h3 h4]; exact hm
theorem quoted_not (s : ByteArray) : notQ s = !quotedB s := rfl
set_option maxHeartbeats 4000000 in
set_option maxRecDepth 100000 in
theorem rvalid_any (fv tv : Value) (p : ProgD) (w : World) (h : IsProg w fv tv p) (hfl : p.funs.length ≤ 1000000) (htl : p.texts.length ≤ 1000000) :
    Calls Tryz.prog 8 #[.agg #[fv, tv, .int .i64 p.main]] w (ValidOk p w) := by
  have Hp := Lib.hid h
  obtain ⟨⟨⟨fa, fc, rfl, hfc, _⟩, _⟩, ⟨ta, tc, rfl, htc, _⟩⟩ := h
  obtain ⟨fs, ts, main⟩ := p
  simp only at hfl htl hfc htc ⊢
  have Hf : Hid (IsFuns w (.slice fa fs.length fc) fs) := Hp.out.1
  have Ht : Hid (IsTexts w (.slice ta ts.length tc) ts) := Hp.out.2
  clear Hp
  have hs0 : Below w.heap.size w (w.alloc (.cells #[.slice fa fs.length fc, .slice ta ts.length tc, .int .i64 main] 25)) := (Below.refl _ _).alloc (Nat.le_refl _) _
  have g0 : ∀ o v, (#[Value.slice fa fs.length fc, .slice ta ts.length tc, .int .i64 main] : Array Value)[o]? = some v → (w.alloc (.cells #[.slice fa fs.length fc, .slice ta ts.length tc, .int .i64 main] 25)).cell? ⟨w.heap.size, o, none⟩ = some v := fun o v hv => by rw [cell_new]; exact hv
  have hs1 : (w.alloc (.cells #[.slice fa fs.length fc, .slice ta ts.length tc, .int .i64 main] 25)).heap.size = w.heap.size + 1 := by simp
  have p0 := g0 0 _ rfl
  have p1 := g0 1 _ rfl
  have p2 := g0 2 _ rfl
  obtain ⟨q0, h0⟩ : ∃ q, inB (fs.length : Int) 1 4096 = q := ⟨_, rfl⟩
  have H0 := Lib.hid h0
  clear h0
  go_enter Tryz.func8, Tryz.ntmps8
  go_wp2_with fail
  generalize w.alloc (.cells #[.slice fa fs.length fc, .slice ta ts.length tc, .int .i64 main] 25) = W0 at *
  refine (in_any _ _ _ _).mono ?_
  rintro e w' ⟨rfl, rfl⟩
  rw [H0.out]
  cases q0
  · go_wp2_with fail
    go_ret
    exact ⟨by rw [valid_c0 _ H0.out]; rfl, hs0⟩
  by_cases h1 : 1000 < ts.length
  · have Hb := Lib.hid (valid_c1 ⟨fs, ts, main⟩ (by simp only; omega))
    go_wp2_with fail
    go_ret
    exact ⟨by rw [Hb.out]; rfl, hs0⟩
  have H1 : Hid (ts.length ≤ 1000) := by show _ ≤ _; omega
  have h1f : ((1000 : Int) < (ts.length : Int)) = False := eq_false (by omega)
  clear h1
  go_wp2_with fail
  refine (in_any _ _ _ _).mono ?_
  rintro e w' ⟨rfl, rfl⟩
  obtain ⟨q, hq⟩ : ∃ q, inB main 0 ((fs.length : Int) - 1) = q := ⟨_, rfl⟩
  have Q := Lib.hid hq
  rw [hq]
  cases q
  · have Hb := Lib.hid (valid_m ⟨fs, ts, main⟩ (main_c0 _ Q.out))
    clear hq
    go_wp2_with fail
    go_ret
    exact ⟨by rw [Hb.out]; rfl, hs0⟩
  have hx0 : 0 ≤ main ∧ main ≤ (fs.length : Int) - 1 := by simpa [inB] using hq
  clear hq
  obtain ⟨n, rfl⟩ := Int.eq_ofNat_of_zero_le hx0.1
  have hn : n < fs.length := by omega
  obtain ⟨b0, off0, fc0, fd0, _, hbl0, c00, _⟩ := Hf.out.at' n hn
  obtain rfl := (Value.slice.inj fd0).1
  have d00 := (hs0.cell (p := ⟨b0, off0 + n * 4, none⟩) hbl0).trans c00
  have Hm : Hid (mainB ⟨fs, ts, n⟩ = ((fs.getD n default).c == 0)) := main_c1 _ Q.out n rfl
  generalize (fs.getD n default).c = cf at *
  clear c00 fd0
  cases hcf : (cf == 0)
  · have Hb := Lib.hid (valid_m ⟨fs, ts, n⟩ (Hm.out.trans hcf))
    go_wp2_with fail
    go_ret
    exact ⟨by rw [Hb.out]; rfl, hs0⟩
  have HM : Hid (mainB ⟨fs, ts, n⟩ = true) := Hm.out.trans hcf
  obtain rfl : cf = 0 := by simpa using hcf
  have HtexT : Hid (∀ s w, Calls Tryz.prog 28 #[.string s] w fun e w' => e = .returned (.bool (quotedB s)) ∧ w = w') := textual_any
  go_wp2_with fail
  clear d00 hx0 hcf Hm
  go_loop [3] (fun i => ∃ k : Nat, k ≤ ts.length ∧ i = .int .i64 k ∧ Hid ((ts.take k).any notQ = false)) (fun i => ts.length - (intOf i).toNat)
  case atStart => exact ⟨0, Nat.zero_le _, rfl, rfl⟩
  case round =>
    obtain ⟨k, hk, rfl, hno⟩ := hrel
    by_cases hkl : k < ts.length
    · obtain ⟨b, off, tc', fd, _, hbl, c0⟩ := texts_at Ht.out k hkl
      obtain rfl := (Value.slice.inj fd).1
      have d0 := (hs0.cell (p := ⟨b, off + k, none⟩) hbl).trans c0
      have Hn := Lib.hid (any_next default ts notQ k hkl hno.out)
      have Hy := Lib.hid (any_hit default ts notQ k hkl)
      clear c0 fd
      generalize ts.getD k default = s at *
      go_wp2_with fail
      refine (HtexT.out s _).mono ?_
      rintro e w' ⟨rfl, rfl⟩
      obtain ⟨bb, hbb⟩ : ∃ bb, quotedB s = bb := ⟨_, rfl⟩
      have Hbb := Lib.hid hbb
      rw [hbb]
      clear hbb
      cases bb
      · have Hb := Lib.hid (valid_c2 ⟨fs, ts, n⟩ (Hy.out (by rw [quoted_not, Hbb.out]; rfl)))
        go_wp2_with fail
        go_ret
        exact ⟨by rw [Hb.out]; rfl, hs0⟩
      · have hN : Hid ((ts.take (k + 1)).any notQ = false) := Hn.out (by rw [quoted_not, Hbb.out]; rfl)
        go_wp2_with fail
        go_round
        case rel => exact ⟨k + 1, by omega, by go_num, hN⟩
        case measure => simp [intOf]; omega
    · have H2 : Hid (ts.any notQ = false) := by
        show _ = _
        have := hno.out
        rw [List.take_of_length_le (by omega)] at this
        exact this
      have G1 := Lib.hid g0
      have hb01 := hs0
      clear hno g0 p2
      go_wp2_with fail
      clear p1
      go_loopw [4] (fun i wr => (∃ k : Nat, k ≤ fs.length ∧ i = .int .i64 k ∧ Hid ((fs.take k).any badHead = false) ∧ Hid ((fs.take k).any (badRights ⟨fs, ts, n⟩) = false)) ∧ Below (w.heap.size + 1) W0 wr) (fun i _ => fs.length - (intOf i).toNat)
      case atStart => exact ⟨⟨0, Nat.zero_le _, rfl, rfl, rfl⟩, Below.refl _ _⟩
      case round =>
        rename World => V2
        clear p0
        obtain ⟨⟨k, hk, rfl, hnoh, hno⟩, hbr⟩ := hrel
        have hbw : Below w.heap.size w V2 := hb01.trans (hbr.mono (by omega))
        have hsz := hbr.size
        have p0 : V2.cell? ⟨w.heap.size, 0, none⟩ = _ := (hbr.cell (p := ⟨w.heap.size, 0, none⟩) (Nat.lt_succ_self _)).trans (G1.out 0 _ rfl)
        by_cases hkl : k < fs.length
        · obtain ⟨b, off, fc', fd, _, hbl, c0, c1, c2, c3⟩ := Hf.out.at' k hkl
          have fd1 : b = b0 ∧ off = off0 := by have := (Value.slice.inj fd).1; cases this; exact ⟨rfl, rfl⟩
          obtain ⟨rfl, rfl⟩ := fd1
          have d0 := (hbw.cell (p := ⟨b, off + k * 4, none⟩) hbl).trans c0
          have d1 := (hbw.cell (p := ⟨b, off + k * 4 + 1, none⟩) hbl).trans c1
          have d2 := (hbw.cell (p := ⟨b, off + k * 4 + 2, none⟩) hbl).trans c2
          have d3 := (hbw.cell (p := ⟨b, off + k * 4 + 3, none⟩) hbl).trans c3
          have hcode := Hf.out.2 _ (getD_mem default fs k hkl)
          clear c0 c1 c2 c3 fd
          have Hnh := Lib.hid (any_next default fs badHead k hkl hnoh.out)
          have Hyh := Lib.hid (any_hit default fs badHead k hkl)
          have Hn := Lib.hid (any_next default fs (badRights ⟨fs, ts, n⟩) k hkl hno.out)
          have Hy := Lib.hid (any_hit default fs (badRights ⟨fs, ts, n⟩) k hkl)
          generalize fs.getD k default = f at *
          obtain ⟨c, l, d, v, code⟩ := f
          have Hcode : Hid (IsCode w v code) := hcode
          obtain ⟨ca, cc, hv, hcc, _⟩ := hcode
          simp only at hv d0 d1 d2 d3 hcc
          subst hv
          have hbx : Below w.heap.size w (V2.alloc (.cells #[.int .i64 c, .int .i64 l, .int .i64 d, .slice ca code.length cc] 48)) := hbw.alloc hbw.size _
          have hby : Below (w.heap.size + 1) W0 (V2.alloc (.cells #[.int .i64 c, .int .i64 l, .int .i64 d, .slice ca code.length cc] 48)) := hbr.alloc (by omega) _
          have g2 : (V2.alloc (.cells #[.int .i64 c, .int .i64 l, .int .i64 d, .slice ca code.length cc] 48)).heap[V2.heap.size]? = some (.cells #[.int .i64 c, .int .i64 l, .int .i64 d, .slice ca code.length cc] 48 (0, 0)) := new_heap V2 _
          have hsw : (V2.alloc (.cells #[.int .i64 c, .int .i64 l, .int .i64 d, .slice ca code.length cc] 48)).heap.size = V2.heap.size + 1 := by simp
          obtain ⟨q0', q1', q2', q3'⟩ := fun_cells g2
          have Hrs : Hid (rightsB ⟨fs, ts, n⟩ ⟨c, l, d, .slice ca code.length cc, code⟩ = (List.range code.length).all fun k => rightB ts.length fs c l code k) := rightsB_eq _ _
          have Hhd : Hid (∀ v, headB ⟨c, l, d, v, code⟩ = (inB c 0 1000 && (inB l 1 4096 && (inB d 0 4096 && inB (code.length : Int) 1 16384)))) := fun _ => rfl
          obtain ⟨r0, hr0⟩ : ∃ q, inB c 0 1000 = q := ⟨_, rfl⟩
          obtain ⟨r1, hr1⟩ : ∃ q, inB l 1 4096 = q := ⟨_, rfl⟩
          obtain ⟨r2, hr2⟩ : ∃ q, inB d 0 4096 = q := ⟨_, rfl⟩
          obtain ⟨r3, hr3⟩ : ∃ q, inB (code.length : Int) 1 16384 = q := ⟨_, rfl⟩
          have R0 := Lib.hid hr0
          have R1 := Lib.hid hr1
          have R2 := Lib.hid hr2
          have R3 := Lib.hid hr3
          clear hr0 hr1 hr2 hr3
          go_wp2_with fail
          generalize V2.alloc (.cells #[.int .i64 c, .int .i64 l, .int .i64 d, .slice ca code.length cc] 48) = W2 at *
          clear d0 d1 d2 d3 p0
          refine (in_any _ _ _ _).mono ?_
          rintro e w' ⟨rfl, rfl⟩
          rw [R0.out]
          cases r0
          · go_wp2_with fail
            go_ret
            exact ⟨by rw [valid_c3 _ (Hyh.out (bad_head _ (by rw [Hhd.out, R0.out]; rfl)))]; rfl, hbx⟩
          go_wp2_with fail
          refine (in_any _ _ _ _).mono ?_
          rintro e w' ⟨rfl, rfl⟩
          rw [R1.out]
          cases r1
          · go_wp2_with fail
            go_ret
            exact ⟨by rw [valid_c3 _ (Hyh.out (bad_head _ (by rw [Hhd.out, R0.out, R1.out]; rfl)))]; rfl, hbx⟩
          go_wp2_with fail
          refine (in_any _ _ _ _).mono ?_
          rintro e w' ⟨rfl, rfl⟩
          rw [R2.out]
          cases r2
          · go_wp2_with fail
            go_ret
            exact ⟨by rw [valid_c3 _ (Hyh.out (bad_head _ (by rw [Hhd.out, R0.out, R1.out, R2.out]; rfl)))]; rfl, hbx⟩
          go_wp2_with fail
          refine (in_any _ _ _ _).mono ?_
          rintro e w' ⟨rfl, rfl⟩
          rw [R3.out]
          cases r3
          · go_wp2_with fail
            go_ret
            exact ⟨by rw [valid_c3 _ (Hyh.out (bad_head _ (by rw [Hhd.out, R0.out, R1.out, R2.out, R3.out]; rfl)))]; rfl, hbx⟩
          have hNh : Hid ((fs.take (k + 1)).any badHead = false) := Hnh.out (good_head _ (by rw [Hhd.out, R0.out, R1.out, R2.out, R3.out]; rfl))
          have hb0 : 0 ≤ c ∧ c ≤ 1000 := by have := R0.out; simpa [inB] using this
          have hb1 : 1 ≤ l ∧ l ≤ 4096 := by have := R1.out; simpa [inB] using this
          have hb3 : code.length ≤ 16384 := by have := R3.out; simp [inB] at this; omega
          go_wp2_with fail
          go_loopw [6] (fun i wr => (∃ j : Nat, j ≤ code.length ∧ i = .int .i64 j ∧ Hid ((List.range j).all (fun k => rightB ts.length fs c l code k) = true)) ∧ Below (V2.heap.size + 1) W2 wr) (fun i _ => code.length - (intOf i).toNat)
          case atStart => exact ⟨⟨0, Nat.zero_le _, rfl, rfl⟩, Below.refl _ _⟩
          case round =>
            obtain ⟨⟨j, hj, rfl, hall⟩, hbr3⟩ := hrel
            have hsz3 := hbr3.size
            have hby3 : Below (w.heap.size + 1) W0 wr := hby.trans (hbr3.mono (by omega))
            have hbx3 : Below w.heap.size w wr := hbx.trans (hbr3.mono (by omega))
            have g3 := (hbr3.block V2.heap.size (Nat.lt_succ_self _)).trans g2
            obtain ⟨e0, e1, e2, e3⟩ := fun_cells g3
            by_cases hjl : j < code.length
            · have p0 : wr.cell? ⟨w.heap.size, 0, none⟩ = _ := (hby3.cell (p := ⟨w.heap.size, 0, none⟩) (Nat.lt_succ_self _)).trans (G1.out 0 _ rfl)
              have p1 : wr.cell? ⟨w.heap.size, 1, none⟩ = _ := (hby3.cell (p := ⟨w.heap.size, 1, none⟩) (Nat.lt_succ_self _)).trans (G1.out 1 _ rfl)
              have p2 : wr.cell? ⟨w.heap.size, 2, none⟩ = _ := (hby3.cell (p := ⟨w.heap.size, 2, none⟩) (Nat.lt_succ_self _)).trans (G1.out 2 _ rfl)
              have Hy3 := Lib.hid (range_hit code.length j (fun k => rightB ts.length fs c l code k) hjl)
              have Hn3 := Lib.hid (range_next j (fun k => rightB ts.length fs c l code k) hall.out)
              have HR := Lib.hid (rright_any _ fs ta ts.length tc n c l d _ code j wr (IsFuns.below Hf.out hbx3) (by omega) (by omega) hb0.1 hb0.2 hb1.1 hb1.2 (IsRow.below Hcode.out hbx3) (by omega) hjl)
              go_wp2_with fail
              refine HR.out.mono ?_
              rintro e w' ⟨rfl, hb4⟩
              have hbr4 : Below (V2.heap.size + 1) W2 w' := hbr3.trans (hb4.mono (by omega))
              have hbx4 : Below w.heap.size w w' := hbx3.trans (hb4.mono (by omega))
              obtain ⟨q, hq⟩ : ∃ q, rightB ts.length fs c l code j = q := ⟨_, rfl⟩
              have Q := Lib.hid hq
              rw [hq]
              clear hq HR
              cases q
              · go_wp2_with fail
                go_ret
                exact ⟨by rw [valid_c4 _ (Hy.out (bad_rights _ _ (by rw [Hrs.out]; exact Hy3.out Q.out)))]; rfl, hbx4⟩
              · have hN : Hid ((List.range (j + 1)).all (fun k => rightB ts.length fs c l code k) = true) := Hn3.out Q.out
                go_wp2_with fail
                go_round
                case rel => exact ⟨⟨j + 1, by omega, by go_num, hN⟩, hbr4⟩
                case measure => simp [intOf]; omega
            · have hje : j = code.length := by omega
              have hN : Hid ((fs.take (k + 1)).any (badRights ⟨fs, ts, n⟩) = false) := Hn.out (good_rights _ _ (by rw [Hrs.out, ← hje]; exact hall.out))
              go_wp2_with fail
              go_round
              case rel => exact ⟨⟨k + 1, by omega, by go_num, hNh, hN⟩, hby3⟩
              case measure => simp [intOf]; omega
        · have hr : fs.any (badRights ⟨fs, ts, n⟩) = false := by
            have := hno.out
            rw [List.take_of_length_le (by omega)] at this
            exact this
          have hh : fs.any badHead = false := by
            have := hnoh.out
            rw [List.take_of_length_le (by omega)] at this
            exact this
          have Hv : Hid (validB ⟨fs, ts, n⟩ = true) := valid_end _ H0.out H1.out H2.out hh hr HM.out
          clear hr hh hno hnoh
          go_wp2_with fail
          go_ret
          exact ⟨by rw [Hv.out]; rfl, hbw⟩

end Go.Proofs.YtidffjlpldalpaaGreatDoor
