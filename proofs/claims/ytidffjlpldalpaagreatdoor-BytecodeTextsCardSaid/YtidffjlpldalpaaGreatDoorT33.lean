/- The reference's Parse: the walk. -/
import Derived.Test.YtidffjlpldalpaaGreatDoorT32
set_option linter.unusedVariables false
set_option linter.unusedSimpArgs false
namespace Go.Proofs.YtidffjlpldalpaaGreatDoor
open Go Go.RowKit

set_option maxHeartbeats 40000000 in
set_option maxRecDepth 100000 in
theorem rparse_any (s : ByteArray) (w : World) (hs : s.size ≤ 1000000) :
    Calls Tryz.prog 12 #[.string s] w (AnsOk (parT s.data.toList) w) := by
  obtain ⟨is0, his, hsz0, hsz1, hsz2⟩ := info_parts info_str
  obtain ⟨ii0, hii, hiz0, hiz1, hiz2⟩ := info_parts info_instr
  obtain ⟨if0, hif, hfz0, hfz1, hfz2⟩ := info_parts info_fun
  have hb0 : Below w.heap.size w (w.alloc (.cells #[.slice none 0 0, .slice none 0 0, .int .i64 0] 25)) := (Below.refl _ _).alloc (Nat.le_refl _) _
  have gB : (w.alloc (.cells #[.slice none 0 0, .slice none 0 0, .int .i64 0] 25)).heap[w.heap.size]? = some (.cells #[.slice none 0 0, .slice none 0 0, .int .i64 0] 25 (0, 0)) := new_heap w _
  have hdl := data_len s
  have HL := Lib.hid (rlines_any s (w.alloc (.cells #[.slice none 0 0, .slice none 0 0, .int .i64 0] 25)) hs)
  go_enter Tryz.func12, Tryz.ntmps12
  go_wp2_with fail
  generalize w.alloc (.cells #[.slice none 0 0, .slice none 0 0, .int .i64 0] 25) = W0 at *
  refine HL.out.mono ?_
  clear HL
  rintro e w1 ⟨lv, ps, ok, rfl, hb1, hO, hpl, hpx, hyes, hno⟩
  have hb01 := hb0.trans (hb1.mono hb0.size)
  have gB1 := (hb1.block w.heap.size (heap_lt gB)).trans gB
  have hz1 := heap_lt gB1
  have hw01 := hb0.size
  have hlt0 := heap_lt gB
  clear hb0 gB hb1
  cases ok
  · have HN : Hid (readT s.data.toList = none) := readT_no _ (hno rfl)
    have hr := set3 gB1 (.slice none 0 0) (.slice none 0 0) (.int .i64 0)
    obtain ⟨z0, z1, z2⟩ := ins_cells gB1
    have fz0 : w1.frozen? ⟨w.heap.size, 0, none⟩ = false := Lib.frozen_of_heap gB1 0
    have fz1 : w1.frozen? ⟨w.heap.size, 1, none⟩ = false := Lib.frozen_of_heap gB1 1
    have fz2 : w1.frozen? ⟨w.heap.size, 2, none⟩ = false := Lib.frozen_of_heap gB1 2
    have HR := Lib.hid hr.1
    have HB := Lib.hid (hb01.trans (grown_under hr.2 (by omega) (fun z hz => by cases hz; exact Nat.le_refl _)))
    obtain ⟨oa, oc, rfl⟩ := owns_slice_n hO
    clear hyes hno hpx hO gB1 hr
    go_wp2_with fail
    refine bodyPost_ret (v := .tuple #[.agg #[.slice none 0 0, .slice none 0 0, .int .i64 0], .int .i64 3]) ?_ rfl ⟨_, _, ⟨[], [], 0⟩, 3, rfl, HB.out, isProg_zero _, par_bad HN.out⟩
    rw [results_cell_tmp (p := 2) (u := 3) (ty := 25) rfl]
    simp [asAddr, run_loadVar_row _ _ _ _ _ _ _ HR.out Tryz.underlying25 rfl prog_info, Result.andThen]
  · have hy := hyes rfl
    by_cases hp0 : ps.length = 0
    · obtain rfl : ps = [] := List.length_eq_zero_iff.1 hp0
      have HN : Hid (readT s.data.toList = none) := readT_no _ (by rw [hy]; decide)
      have hr := set3 gB1 (.slice none 0 0) (.slice none 0 0) (.int .i64 0)
      obtain ⟨z0, z1, z2⟩ := ins_cells gB1
      have fz0 : w1.frozen? ⟨w.heap.size, 0, none⟩ = false := Lib.frozen_of_heap gB1 0
      have fz1 : w1.frozen? ⟨w.heap.size, 1, none⟩ = false := Lib.frozen_of_heap gB1 1
      have fz2 : w1.frozen? ⟨w.heap.size, 2, none⟩ = false := Lib.frozen_of_heap gB1 2
      have HR := Lib.hid hr.1
      have HB := Lib.hid (hb01.trans (grown_under hr.2 (by omega) (fun z hz => by cases hz; exact Nat.le_refl _)))
      have hO' : w1.ownsRow W0.heap.size 9 1 lv 0 (strCells []) := hO
      obtain ⟨oa, oc, rfl⟩ := owns_slice_n hO'
      clear hyes hno hpx hO hO' gB1 hr hy hp0 hpl
      go_wp2_with fail
      refine bodyPost_ret (v := .tuple #[.agg #[.slice none 0 0, .slice none 0 0, .int .i64 0], .int .i64 3]) ?_ rfl ⟨_, _, ⟨[], [], 0⟩, 3, rfl, HB.out, isProg_zero _, par_bad HN.out⟩
      rw [results_cell_tmp (p := 2) (u := 3) (ty := 25) rfl]
      simp [asAddr, run_loadVar_row _ _ _ _ _ _ _ HR.out Tryz.underlying25 rfl prog_info, Result.andThen]
    · have hRT := readT_lines hy (fun x hx => (hpx x hx).2) (fun h => hp0 (by rw [h]; rfl))
      have Hsz : Hid (∀ x ∈ ps, x.size ≤ 1000000) := fun x hx => by have := (hpx x hx).1; omega
      obtain ⟨oa, oc, rfl⟩ := owns_slice_n hO
      obtain ⟨lb, rfl, hlb, hCl⟩ : ∃ lb, oa = some ⟨lb, 0, none⟩ ∧ lb < w1.heap.size ∧ LinesAt w1 lb ps := by
        obtain ⟨a, c, hv, hlc, hcell⟩ := isRow_owns hO
        obtain ⟨b, off, rfl, hlt, hc⟩ := hcell (by omega)
        have hv' := (Value.slice.inj hv).1
        have hoff : off = 0 := by
          rcases hO.2 with ⟨h, _⟩ | ⟨g, cap, cur, h, _⟩
          · have h2 := (Value.slice.inj h).1; rw [hv'] at h2; cases h2
          · have h2 := (Value.slice.inj h).1; rw [hv'] at h2; simp at h2; exact h2.2
        subst hoff
        refine ⟨b, hv', hlt, fun j hj => ?_⟩
        have := hc j (by rw [strCells_length]; exact hj)
        rw [Nat.zero_add, strCells_at _ _ hj] at this
        exact this
      have hQ := r_start hb01 gB1
      have hgr := grown_alloc w1 (.cells #[.slice none 0 0, .slice none 0 0, .int .i64 0] 25)
      have hlt1 := heap_lt gB1
      have C2 := Lib.hid (cells_grown hCl hlb hgr (by nofun))
      have hzz : (w1.alloc (.cells #[.slice none 0 0, .slice none 0 0, .int .i64 0] 25)).heap.size = w1.heap.size + 1 := by simp
      have HRT : Hid (readT s.data.toList = foldT (decide (0 = 0)) (strip ⟨[], [], 0⟩) ((ps.drop 0).map dat)) := hRT
      have h3 : ps.length ≤ 1000000 := by omega
      have hpl0 : ((ps.length : Int) == 0) = false := beq_eq_false_iff_ne.2 (by omega)
      clear hRT hyes hno hpx hO hy hCl hgr gB1 hb01
      go_upto_region 8 with fail
      generalize w1.alloc (.cells #[.slice none 0 0, .slice none 0 0, .int .i64 0] 25) = w2 at *
      obtain ⟨pb, hpb⟩ : ∃ pb, w1.heap.size = pb := ⟨_, rfl⟩
      rw [hpb] at hQ hlb hzz ⊢
      have Q2 := Lib.hid hQ
      obtain ⟨B, hBe⟩ : ∃ B, w2.heap.size = B := ⟨_, rfl⟩
      have S2 := Lib.hid (PSt.nil w2 B)
      have hB : pb < B := by omega
      have hlp := hQ.lp
      have hB2 : B ≤ w2.heap.size := by omega
      clear hQ hBe hpb hzz
      go_wp2_with fail
      go_loopw [8] (fun i wr => ∃ (k : Nat) (fv tv : Value) (fs : List FunD) (ts : List ByteArray) (main : Int), k ≤ ps.length ∧ i = .int .i64 k ∧ Hid (RSt w wr pb fv tv main) ∧ Hid (PSt wr B fv tv fs ts) ∧ Hid (LinesAt wr lb ps) ∧ Hid (readT s.data.toList = foldT (decide (k = 0)) (strip ⟨fs, ts, main⟩) ((ps.drop k).map dat)) ∧ fs.length ≤ k ∧ ts.length ≤ k ∧ (∀ f ∈ fs, f.code.length ≤ k) ∧ B ≤ wr.heap.size) (fun i _ => ps.length - (intOf i).toNat)
      case atStart => exact ⟨0, _, _, [], [], 0, Nat.zero_le _, rfl, Q2, S2, C2, HRT, Nat.le_refl _, Nat.le_refl _, fun f hf => (by cases hf), hB2⟩
      case round =>
        clear Q2 S2 C2 HRT hB2
        rename World => V
        obtain ⟨k, fv, tv, fs, ts, main, hk, rfl, Q, S, C, HRT, hfl, htl, hcl, hBV⟩ := hrel
        have hcl' := Lib.hid hcl
        clear hcl
        have hlbv : lb < V.heap.size := by omega
        obtain ⟨fa, fc, rfl⟩ := owns_slice_n S.out.fns
        obtain ⟨ta, tc, rfl⟩ := owns_slice_n S.out.txt
        by_cases hkl : k < ps.length
        · have c0 := C.out k hkl
          have hx := Hsz.out _ (getD_mem default ps k hkl)
          have hRx := HRT.out
          rw [List.drop_eq_getElem_cons hkl, List.map_cons, show ps[k] = ps.getD k default by simp [List.getD, hkl]] at hRx
          generalize ps.getD k default = x at *
          have HRX : Hid (readT s.data.toList = foldT (decide (k = 0)) (strip ⟨fs, ts, main⟩) (dat x :: (ps.drop (k + 1)).map dat)) := hRx
          clear hRx HRT
          have HSp := Lib.hid (rsplit_any x V hx)
          go_wp2_with fail
          refine HSp.out.mono ?_
          clear HSp
          rintro e w3 ⟨a, rest, m, rfl, hb3, ha, haz, hrz, hm1, hm0⟩
          have hgr := grown_below hb3
          have Q' := Lib.hid (Q.out.grown hgr (by nofun))
          have S' := Lib.hid (S.out.grown hgr (by nofun))
          have C' := Lib.hid (cells_grown C.out hlbv hgr (by nofun))
          have hle' := hgr.size
          clear Q S C hgr
          have Q := Q'
          have S := S'
          have C := C'
          clear Q' S' C'
          have hBV3 : B ≤ w3.heap.size := by omega
          clear c0
          have HKR := Lib.hid (line_kR (decide (k = 0)) (dat x) a.data.toList (spl 32 x.data.toList).tail ((dat x).drop (a.data.toList.length + 1)) ha rfl rfl)
          obtain ⟨A, hA⟩ : ∃ A, (a.data.toList == wMain) = A := ⟨_, rfl⟩
          have fA : (a.toList == [109, 97, 105, 110]) = A := by rw [Go.ByteArray.toList_eq]; exact hA
          obtain ⟨k0, hk0⟩ : ∃ k0, decide (k = 0) = k0 := ⟨_, rfl⟩
          have fk : ((k : Int) == 0) = k0 := by rw [← hk0]; by_cases h : k = 0 <;> simp [h]
          rw [hk0] at HRX HKR
          by_cases hAk : A = k0
          rotate_left
          · have HN : Hid (readT s.data.toList = none) := foldT_none HRX.out (by rw [HKR.out, kR_wrong (by rw [hA]; exact hAk)]; rfl)
            clear HRX HKR hA hk0 hm1 hm0 ha
            cases A <;> cases k0
            · exact absurd rfl hAk
            · obtain ⟨z0, z1, z2⟩ := ins_cells Q.out.rs
              obtain ⟨p0, p1, p2⟩ := ins_cells Q.out.pr
              have fz0 : (w3).frozen? ⟨w.heap.size, 0, none⟩ = false := Lib.frozen_of_heap Q.out.rs 0
              have fz1 : (w3).frozen? ⟨w.heap.size, 1, none⟩ = false := Lib.frozen_of_heap Q.out.rs 1
              have fz2 : (w3).frozen? ⟨w.heap.size, 2, none⟩ = false := Lib.frozen_of_heap Q.out.rs 2
              have HD := Lib.hid (Q.out.fail)
              clear Q S
              go_wp2_with fail
              refine bodyPost_ret (v := .tuple #[.agg #[.slice none 0 0, .slice none 0 0, .int .i64 0], .int .i64 3]) ?_ rfl ⟨_, _, ⟨[], [], 0⟩, 3, rfl, HD.out.2, isProg_zero _, par_bad HN.out⟩
              rw [results_cell_tmp (p := 2) (u := 3) (ty := 25) rfl]
              simp [asAddr, run_loadVar_row _ _ _ _ _ _ _ HD.out.1 Tryz.underlying25 rfl prog_info, Result.andThen]
            · obtain ⟨z0, z1, z2⟩ := ins_cells Q.out.rs
              obtain ⟨p0, p1, p2⟩ := ins_cells Q.out.pr
              have fz0 : (w3).frozen? ⟨w.heap.size, 0, none⟩ = false := Lib.frozen_of_heap Q.out.rs 0
              have fz1 : (w3).frozen? ⟨w.heap.size, 1, none⟩ = false := Lib.frozen_of_heap Q.out.rs 1
              have fz2 : (w3).frozen? ⟨w.heap.size, 2, none⟩ = false := Lib.frozen_of_heap Q.out.rs 2
              have HD := Lib.hid (Q.out.fail)
              clear Q S
              go_wp2_with fail
              refine bodyPost_ret (v := .tuple #[.agg #[.slice none 0 0, .slice none 0 0, .int .i64 0], .int .i64 3]) ?_ rfl ⟨_, _, ⟨[], [], 0⟩, 3, rfl, HD.out.2, isProg_zero _, par_bad HN.out⟩
              rw [results_cell_tmp (p := 2) (u := 3) (ty := 25) rfl]
              simp [asAddr, run_loadVar_row _ _ _ _ _ _ _ HD.out.1 Tryz.underlying25 rfl prog_info, Result.andThen]
            · exact absurd rfl hAk
          · subst hAk
            obtain ⟨z, hz⟩ : ∃ z, (a.data.toList == wString) = z := ⟨_, rfl⟩
            have fS : (a.toList == [115, 116, 114, 105, 110, 103]) = z := by rw [Go.ByteArray.toList_eq]; exact hz
            cases z
            rotate_left
            · as_aux_lemma =>
              have hws : a.data.toList = wString := beq_iff_eq.1 hz
              obtain rfl : A = false := by rw [← hA, hws]; decide
              have hLP := HKR.out
              rw [kR_string hA hws] at hLP
              have hkn : ¬ k = 0 := of_decide_eq_false hk0
              have hk1 : decide (k + 1 = 0) = false := decide_eq_false (by omega)
              have HU := Lib.hid (runquote_any rest w3 (by omega))
              clear HKR hA hk0 hz hws
              go_wp2_with fail
              refine HU.out.mono ?_
              clear HU
              rintro e w4 ⟨t, ok, rfl, rfl, hu, htz, hto⟩
              cases m
              · have HN : Hid (readT s.data.toList = none) := foldT_none HRX.out (by rw [hLP, hm0 rfl]; rfl)
                clear HRX hm1 hm0 hLP hu
                cases ok
                · have ht0 := hto rfl
                  obtain ⟨z0, z1, z2⟩ := ins_cells Q.out.rs
                  obtain ⟨p0, p1, p2⟩ := ins_cells Q.out.pr
                  have fz0 : (w4).frozen? ⟨w.heap.size, 0, none⟩ = false := Lib.frozen_of_heap Q.out.rs 0
                  have fz1 : (w4).frozen? ⟨w.heap.size, 1, none⟩ = false := Lib.frozen_of_heap Q.out.rs 1
                  have fz2 : (w4).frozen? ⟨w.heap.size, 2, none⟩ = false := Lib.frozen_of_heap Q.out.rs 2
                  have HD := Lib.hid (Q.out.fail)
                  clear Q S
                  go_wp2_with fail
                  refine bodyPost_ret (v := .tuple #[.agg #[.slice none 0 0, .slice none 0 0, .int .i64 0], .int .i64 3]) ?_ rfl ⟨_, _, ⟨[], [], 0⟩, 3, rfl, HD.out.2, isProg_zero _, par_bad HN.out⟩
                  rw [results_cell_tmp (p := 2) (u := 3) (ty := 25) rfl]
                  simp [asAddr, run_loadVar_row _ _ _ _ _ _ _ HD.out.1 Tryz.underlying25 rfl prog_info, Result.andThen]
                · clear hto
                  obtain ⟨z0, z1, z2⟩ := ins_cells Q.out.rs
                  obtain ⟨p0, p1, p2⟩ := ins_cells Q.out.pr
                  have fz0 : (w4).frozen? ⟨w.heap.size, 0, none⟩ = false := Lib.frozen_of_heap Q.out.rs 0
                  have fz1 : (w4).frozen? ⟨w.heap.size, 1, none⟩ = false := Lib.frozen_of_heap Q.out.rs 1
                  have fz2 : (w4).frozen? ⟨w.heap.size, 2, none⟩ = false := Lib.frozen_of_heap Q.out.rs 2
                  have HD := Lib.hid (Q.out.fail)
                  clear Q S
                  go_wp2_with fail
                  refine bodyPost_ret (v := .tuple #[.agg #[.slice none 0 0, .slice none 0 0, .int .i64 0], .int .i64 3]) ?_ rfl ⟨_, _, ⟨[], [], 0⟩, 3, rfl, HD.out.2, isProg_zero _, par_bad HN.out⟩
                  rw [results_cell_tmp (p := 2) (u := 3) (ty := 25) rfl]
                  simp [asAddr, run_loadVar_row _ _ _ _ _ _ _ HD.out.1 Tryz.underlying25 rfl prog_info, Result.andThen]
              · obtain ⟨ht1, ht2⟩ := hm1 rfl
                have hne : (spl 32 rest.data.toList).isEmpty = false := by
                  have := spl_ne 32 rest.data.toList
                  cases h : spl 32 rest.data.toList with
                  | nil => exact absurd h this
                  | cons _ _ => rfl
                rw [ht1, hne, if_neg (by decide), data_len, show (dat x).drop (a.size + 1) = rest.data.toList from ht2.symm, hu] at hLP
                clear hm1 hm0 ht1 ht2 hne hu
                cases ok
                · have HN : Hid (readT s.data.toList = none) := foldT_none HRX.out (by rw [hLP]; rfl)
                  clear HRX hLP
                  obtain ⟨z0, z1, z2⟩ := ins_cells Q.out.rs
                  obtain ⟨p0, p1, p2⟩ := ins_cells Q.out.pr
                  have fz0 : (w4).frozen? ⟨w.heap.size, 0, none⟩ = false := Lib.frozen_of_heap Q.out.rs 0
                  have fz1 : (w4).frozen? ⟨w.heap.size, 1, none⟩ = false := Lib.frozen_of_heap Q.out.rs 1
                  have fz2 : (w4).frozen? ⟨w.heap.size, 2, none⟩ = false := Lib.frozen_of_heap Q.out.rs 2
                  have HD := Lib.hid (Q.out.fail)
                  clear Q S
                  go_wp2_with fail
                  refine bodyPost_ret (v := .tuple #[.agg #[.slice none 0 0, .slice none 0 0, .int .i64 0], .int .i64 3]) ?_ rfl ⟨_, _, ⟨[], [], 0⟩, 3, rfl, HD.out.2, isProg_zero _, par_bad HN.out⟩
                  rw [results_cell_tmp (p := 2) (u := 3) (ty := 25) rfl]
                  simp [asAddr, run_loadVar_row _ _ _ _ _ _ _ HD.out.1 Tryz.underlying25 rfl prog_info, Result.andThen]
                · have hlp' : lineP false (dat x) = .text t.data.toList := hLP
                  by_cases hf0 : fs.length = 0
                  · obtain rfl : fs = [] := List.length_eq_zero_iff.1 hf0
                    have HR' : Hid (readT s.data.toList = foldT (decide (k + 1 = 0)) (strip ⟨[], ts ++ [t], main⟩) ((ps.drop (k + 1)).map dat)) := by show _ = _; rw [hk1]; exact foldT_some HRX.out (by rw [hlp']; rfl)
                    have Q0 : Hid (RSt w w4 pb (.slice fa 0 fc) (.slice ta ts.length tc) main) := Q
                    have S0 : Hid (PSt w4 B (.slice fa 0 fc) (.slice ta ts.length tc) [] ts) := S
                    clear hLP hlp' HRX Q S hf0
                    have Q := Q0
                    have S := S0
                    clear Q0 S0
                    obtain ⟨p0, p1, p2⟩ := ins_cells Q.out.pr
                    go_wp2_with (at_builtin; refine wpList_append_lies _ rfl _ _ 23 rfl B 9 is0 (.string ByteArray.empty) 1 16 Tryz.underlying23 his hsz0 hsz1 hsz2 rfl (by decide) _ ts.length (strCells ts) rfl (S.out.txt.alloc _) ⟨w4.heap.size, 0, none⟩ 1 1 [.string t] rfl rfl ?c1 ?c2 (by decide) ?c3 ?c4 ?c5 _ rfl ?_)
                    case c1 => exact cell_one_new _ _ _
                    case c2 => intro u hu; simp at hu; subst hu; rfl
                    case c3 => unfold maxLen; omega
                    case c4 => omega
                    case c5 => simp; omega
                    intro g cap w7 hown7 hgrow7 hat7 hlt7
                    have hga := grown_alloc w4 (.cells #[.string t] 9)
                    have Q7 := Lib.hid ((Q.out.grown hga (by nofun)).grown hgrow7 (fun q hq => by have := (owns_lt S.out.txt q hq).1; omega))
                    have S7 := Lib.hid ((S.out.grown hga (by nofun)).text t rfl hown7 hgrow7)
                    have C7 := Lib.hid (cells_grown (cells_grown C.out (by omega) hga (by nofun)) (by simp; omega) hgrow7 (fun q hq => by have := (owns_lt S.out.txt q hq).1; omega))
                    have hz7 : B ≤ w7.heap.size := by have := hgrow7.size; simp at this; omega
                    have fp1 : w7.frozen? ⟨pb, 1, none⟩ = false := Lib.frozen_of_heap Q7.out.pr 1
                    obtain ⟨q0, q1, q2⟩ := ins_cells Q7.out.pr
                    clear hown7 hgrow7 hat7 hga Q S C p0 p1 p2
                    go_wp2_with fail
                    go_roundw
                    case rel => exact ⟨k + 1, _, _, [], ts ++ [t], main, by omega, by go_num, Q7.out.set 1 _ rfl, S7.out.grown (grown_set _ _ _ _) (fun z hz => by cases hz; exact hB), cells_grown C7.out (by omega) (grown_set _ _ _ _) (fun z hz => by cases hz; omega), HR', by simp, by simp; omega, fun f hf => (by cases hf), by simp; omega⟩
                    case measure => simp [intOf]; omega
                  · have hfp : 0 < fs.length := by omega
                    have HN : Hid (readT s.data.toList = none) := foldT_none HRX.out (by rw [hlp']; show (if (strip ⟨fs, ts, main⟩).funs = [] then _ else _) = _; rw [if_neg (by intro h; simp only [strip, List.map_eq_nil_iff] at h; exact hf0 (by rw [h]; rfl))])
                    clear hLP hlp' HRX
                    obtain ⟨z0, z1, z2⟩ := ins_cells Q.out.rs
                    obtain ⟨p0, p1, p2⟩ := ins_cells Q.out.pr
                    have fz0 : (w4).frozen? ⟨w.heap.size, 0, none⟩ = false := Lib.frozen_of_heap Q.out.rs 0
                    have fz1 : (w4).frozen? ⟨w.heap.size, 1, none⟩ = false := Lib.frozen_of_heap Q.out.rs 1
                    have fz2 : (w4).frozen? ⟨w.heap.size, 2, none⟩ = false := Lib.frozen_of_heap Q.out.rs 2
                    have HD := Lib.hid (Q.out.fail)
                    clear Q S
                    go_wp2_with fail
                    refine bodyPost_ret (v := .tuple #[.agg #[.slice none 0 0, .slice none 0 0, .int .i64 0], .int .i64 3]) ?_ rfl ⟨_, _, ⟨[], [], 0⟩, 3, rfl, HD.out.2, isProg_zero _, par_bad HN.out⟩
                    rw [results_cell_tmp (p := 2) (u := 3) (ty := 25) rfl]
                    simp [asAddr, run_loadVar_row _ _ _ _ _ _ _ HD.out.1 Tryz.underlying25 rfl prog_info, Result.andThen]
            · have hns : a.data.toList ≠ wString := fun e => by rw [e] at hz; cases hz
              obtain ⟨zf, hzf⟩ : ∃ zf, (a.data.toList == wFun) = zf := ⟨_, rfl⟩
              have fF : (a.toList == [102, 117, 110]) = zf := by rw [Go.ByteArray.toList_eq]; exact hzf
              cases m
              · as_aux_lemma =>
                have hnu : numsU (spl 32 x.data.toList).tail = some [] := by rw [hm0 rfl]; rfl
                have hKD : lineP A (dat x) = if opU a.data.toList = 0 then .bad else insU' (opU a.data.toList) (some []) := HKR.out.trans (kR_ins hA hns hnu (fun h => by have := h.2; cases this) (fun h => by have := h.2; cases this))
                clear HKR hm1 hm0 hnu
                cases A
                · have hk1 : decide (k + 1 = 0) = false := decide_eq_false (by omega)
                  cases zf
                  · clear hA hzf hz
                    obtain ⟨op, hop⟩ : ∃ op, opU a.data.toList = op := ⟨_, rfl⟩
                    by_cases hop0 : op = 0
                    · subst hop0
                      have HO := Lib.hid (rop_any a w3)
                      have HN : Hid (readT s.data.toList = none) := foldT_none HRX.out (by rw [hKD, hop, if_pos rfl]; rfl)
                      rw [hop] at HO
                      clear HRX hKD
                      go_wp2_with fail
                      refine HO.out.mono ?_
                      clear HO
                      rintro e w5 ⟨rfl, hb5⟩
                      have hgr := grown_below hb5
                      have Q' := Lib.hid (Q.out.grown hgr (by nofun))
                      have S' := Lib.hid (S.out.grown hgr (by nofun))
                      have C' := Lib.hid (cells_grown C.out (by omega) hgr (by nofun))
                      have hle' := hgr.size
                      clear Q S C hgr
                      have Q := Q'
                      have S := S'
                      have C := C'
                      clear Q' S' C'
                      obtain ⟨z0, z1, z2⟩ := ins_cells Q.out.rs
                      obtain ⟨p0, p1, p2⟩ := ins_cells Q.out.pr
                      have fz0 : (w5).frozen? ⟨w.heap.size, 0, none⟩ = false := Lib.frozen_of_heap Q.out.rs 0
                      have fz1 : (w5).frozen? ⟨w.heap.size, 1, none⟩ = false := Lib.frozen_of_heap Q.out.rs 1
                      have fz2 : (w5).frozen? ⟨w.heap.size, 2, none⟩ = false := Lib.frozen_of_heap Q.out.rs 2
                      have HD := Lib.hid (Q.out.fail)
                      clear Q S
                      go_wp2_with fail
                      refine bodyPost_ret (v := .tuple #[.agg #[.slice none 0 0, .slice none 0 0, .int .i64 0], .int .i64 3]) ?_ rfl ⟨_, _, ⟨[], [], 0⟩, 3, rfl, HD.out.2, isProg_zero _, par_bad HN.out⟩
                      rw [results_cell_tmp (p := 2) (u := 3) (ty := 25) rfl]
                      simp [asAddr, run_loadVar_row _ _ _ _ _ _ _ HD.out.1 Tryz.underlying25 rfl prog_info, Result.andThen]
                    · have fo : (op == 0) = false := beq_eq_false_iff_ne.2 hop0
                      rw [hop, if_neg hop0] at hKD
                      have HO := Lib.hid (rop_any a w3)
                      rw [hop] at HO
                      go_wp2_with fail
                      refine HO.out.mono ?_
                      clear HO
                      rintro e w5 ⟨rfl, hb5⟩
                      have hgr := grown_below hb5
                      have Q' := Lib.hid (Q.out.grown hgr (by nofun))
                      have S' := Lib.hid (S.out.grown hgr (by nofun))
                      have C' := Lib.hid (cells_grown C.out (by omega) hgr (by nofun))
                      have hle' := hgr.size
                      clear Q S C hgr
                      have Q := Q'
                      have S := S'
                      have C := C'
                      clear Q' S' C'
                      by_cases hf0 : fs.length = 0
                      · obtain rfl : fs = [] := List.length_eq_zero_iff.1 hf0
                        have HN : Hid (readT s.data.toList = none) := foldT_none HRX.out (by rw [hKD]; exact step_ins_none _ _ _ rfl)
                        have Q0 : Hid (RSt w w5 pb (.slice fa 0 fc) (.slice ta ts.length tc) main) := Q
                        have S0 : Hid (PSt w5 B (.slice fa 0 fc) (.slice ta ts.length tc) [] ts) := S
                        clear HRX hKD hf0 Q S
                        have Q := Q0
                        have S := S0
                        clear Q0 S0
                        obtain ⟨z0, z1, z2⟩ := ins_cells Q.out.rs
                        obtain ⟨p0, p1, p2⟩ := ins_cells Q.out.pr
                        have fz0 : (w5).frozen? ⟨w.heap.size, 0, none⟩ = false := Lib.frozen_of_heap Q.out.rs 0
                        have fz1 : (w5).frozen? ⟨w.heap.size, 1, none⟩ = false := Lib.frozen_of_heap Q.out.rs 1
                        have fz2 : (w5).frozen? ⟨w.heap.size, 2, none⟩ = false := Lib.frozen_of_heap Q.out.rs 2
                        have HD := Lib.hid (Q.out.fail)
                        clear Q S
                        go_wp2_with fail
                        refine bodyPost_ret (v := .tuple #[.agg #[.slice none 0 0, .slice none 0 0, .int .i64 0], .int .i64 3]) ?_ rfl ⟨_, _, ⟨[], [], 0⟩, 3, rfl, HD.out.2, isProg_zero _, par_bad HN.out⟩
                        rw [results_cell_tmp (p := 2) (u := 3) (ty := 25) rfl]
                        simp [asAddr, run_loadVar_row _ _ _ _ _ _ _ HD.out.1 Tryz.underlying25 rfl prog_info, Result.andThen]
                      · have hfp : 0 < fs.length := by omega
                        have ffb : ((fs.length : Int) == 0) = false := beq_eq_false_iff_ne.2 (by omega)
                        have HOp := Lib.hid (operands_any op w5)
                        obtain ⟨q0, q1, q2⟩ := ins_cells Q.out.pr
                        by_cases hlen : (0 : Int) = opnds op
                        rotate_left
                        · have fne : ((0 : Int) != opnds op) = true := bne_of (beq_eq_false_iff_ne.2 hlen)
                          have HN : Hid (readT s.data.toList = none) := foldT_none HRX.out (by rw [hKD]; unfold insU'; simp only; rw [if_neg (by simpa using hlen)]; rfl)
                          clear HRX hKD
                          obtain ⟨z0, z1, z2⟩ := ins_cells Q.out.rs
                          obtain ⟨p0, p1, p2⟩ := ins_cells Q.out.pr
                          have fz0 : (w5).frozen? ⟨w.heap.size, 0, none⟩ = false := Lib.frozen_of_heap Q.out.rs 0
                          have fz1 : (w5).frozen? ⟨w.heap.size, 1, none⟩ = false := Lib.frozen_of_heap Q.out.rs 1
                          have fz2 : (w5).frozen? ⟨w.heap.size, 2, none⟩ = false := Lib.frozen_of_heap Q.out.rs 2
                          have HD := Lib.hid (Q.out.fail)
                          clear Q S
                          go_wp2_with (go_at_call 38; refine HOp.out.mono ?_; rintro e w6 ⟨rfl, rfl⟩)
                          refine bodyPost_ret (v := .tuple #[.agg #[.slice none 0 0, .slice none 0 0, .int .i64 0], .int .i64 3]) ?_ rfl ⟨_, _, ⟨[], [], 0⟩, 3, rfl, HD.out.2, isProg_zero _, par_bad HN.out⟩
                          rw [results_cell_tmp (p := 2) (u := 3) (ty := 25) rfl]
                          simp [asAddr, run_loadVar_row _ _ _ _ _ _ _ HD.out.1 Tryz.underlying25 rfl prog_info, Result.andThen]
                        · rw [← hlen] at HOp
                          have Hlen := Lib.hid hlen
                          clear hlen
                          have hlp' : lineP false (dat x) = .ins ⟨op, 0, 0⟩ := hKD.trans (by unfold insU'; simp only; rw [if_pos (by simpa using Hlen.out)]; rfl)
                          obtain ⟨fs0, f, rfl⟩ : ∃ fs0 f, fs = fs0 ++ [f] := by
                            rcases List.eq_nil_or_concat fs with h | ⟨a, b, h⟩
                            · exact absurd (by rw [h]; rfl) hf0
                            · exact ⟨a, b, by rw [h, List.concat_eq_append]⟩
                          obtain ⟨k0, hk0'⟩ : ∃ k0, fs0.length = k0 := ⟨_, rfl⟩
                          have hfl1 : (fs0 ++ [f]).length = k0 + 1 := by simp [hk0']
                          rw [hfl1] at hfl hfp hf0 Q S q0 ffb
                          have HR' : Hid (∀ cv, readT s.data.toList = foldT (decide (k + 1 = 0)) (strip ⟨fs0 ++ [⟨f.c, f.l, f.d, cv, f.code ++ [⟨op, 0, 0⟩]⟩], ts, main⟩) ((ps.drop (k + 1)).map dat)) := fun cv => by
                            rw [hk1]; exact foldT_some HRX.out (by rw [hlp']; simp [stepT, strip, stripF])
                          have hwr : IntKind.i64.wrap (((k0 + 1 : Nat) : Int) - 1) = (k0 : Int) := by rw [show ((k0 + 1 : Nat) : Int) - 1 = (k0 : Int) by omega]; exact wrap_ok _ (by omega) (by omega)
                          clear HRX hKD hlp'
                          have hIc := new_heap w5 (.cells #[.int .i64 op, .int .i64 0, .int .i64 0] 64)
                          have hg1 := grown_alloc w5 (.cells #[.int .i64 op, .int .i64 0, .int .i64 0] 64)
                          have hO5 := S.out.code
                          have hF5 := S.out.fns
                          have Q6 := Lib.hid (Q.out.grown hg1 (by nofun))
                          have S6 := Lib.hid (S.out.grown hg1 (by nofun))
                          have C6 := Lib.hid (cells_grown C.out (by omega) hg1 (by nofun))
                          have q6 : (w5.alloc (.cells #[.int .i64 op, .int .i64 0, .int .i64 0] 64)).cell? ⟨pb, 0, none⟩ = some (.slice fa (k0 + 1) fc) := (ins_cells Q6.out.pr).1
                          have hI6 : (w5.alloc (.cells #[.int .i64 op, .int .i64 0, .int .i64 0] 64)).heap[w5.heap.size]? = some (.cells #[.int .i64 op, .int .i64 0, .int .i64 0] 64 (0, 0)) := hIc
                          have hsz6 := hg1.size
                          go_upto_region 33 with (go_at_call 38; refine HOp.out.mono ?_; rintro e w6 ⟨rfl, rfl⟩)
                          generalize (w5.alloc (.cells #[.int .i64 op, .int .i64 0, .int .i64 0] 64)) = w6 at *
                          obtain ⟨xb, hxb⟩ : ∃ xb, w5.heap.size = xb := ⟨_, rfl⟩
                          rw [hxb] at hI6 ⊢
                          clear Q S C
                          have Q := Q6
                          have S := S6
                          have C := C6
                          clear Q6 S6 C6
                          have hcode := S.out.code f (by simp)
                          obtain ⟨ca, cc, hfv⟩ := owns_slice_n hcode
                          have hrow := isRow_owns S.out.fns
                          rw [hfl1] at hrow
                          obtain ⟨a', c', hv', hlc', hcell'⟩ := hrow
                          obtain ⟨fb, foff, rfl, hfb, hfc⟩ := hcell' (by omega)
                          have e1 := (Value.slice.inj hv').1
                          have e2 := (Value.slice.inj hv').2.2
                          subst e1 e2
                          have hoff : foff = 0 := by
                            rcases S.out.fns.2 with ⟨h, _⟩ | ⟨g, cap, cur, h, _⟩
                            · cases h
                            · have h2 := (Value.slice.inj h).1; simp at h2; exact h2.2
                          subst hoff
                          have c3 := hfc (k0 * 4 + 3) (by rw [funCells_length, hfl1]; omega)
                          rw [(funCells_at (fs0 ++ [f]) k0 (by omega)).2.2.2, show (fs0 ++ [f]).getD k0 default = f by subst hk0'; simp [List.getD]] at c3
                          rw [hfv, Nat.zero_add] at c3
                          have hfl2 : f.code.length ≤ k := hcl'.out f (by simp)
                          have hffb := S.out.fns
                          have hfbl := (owns_lt hffb fb rfl).1
                          rw [hfl1] at hffb
                          have Hff := Lib.hid hffb
                          have hcapart : ∀ q, (Value.slice ca f.code.length cc).ownBlock = some q → q ≠ fb := fun q hq e => by subst e; exact owns_apart hcode S.out.fns (by decide) q (by rw [hfv]; exact hq) rfl
                          rw [hfv] at hcode
                          have HC4 := Lib.hid hcode
                          have hxapart : (Value.slice ca f.code.length cc).ownBlock ≠ some xb := fun e => by have h1 := owns_lt (hO5 f (by simp)) xb (by rw [hfv]; exact e); omega
                          have hxfb : xb ≠ fb := fun e => by have h1 := owns_lt hF5 fb rfl; omega
                          clear hfc hcell' hcode hffb
                          have S0 : SI pb xb (.slice (some ⟨fb, 0, none⟩) (k0 + 1) fc) (.int .i64 op) (.int .i64 0) (.int .i64 0) w6.drew := ⟨(ins_cells Q.out.pr).1, (ins_cells hI6).1, (ins_cells hI6).2.1, (ins_cells hI6).2.2, Q.out.lt, heap_lt hI6⟩
                          have hga := grown_alloc w6.drew (.cells #[.int .i64 op, .int .i64 0, .int .i64 0] 64)
                          have hgb : w6.grownBy (w6.drew.alloc (.cells #[.int .i64 op, .int .i64 0, .int .i64 0] 64)) none := grown_drawn hga
                          have S1 := S0.grown hga (by nofun) (by nofun)
                          have y0 : w6.drew.cell? ⟨fb, k0 * 4 + 3, none⟩ = some (.slice ca f.code.length cc) := c3
                          have y1 : (w6.alloc (.cells #[.int .i64 op, .int .i64 0, .int .i64 0] 64)).cell? ⟨fb, k0 * 4 + 3, none⟩ = some (.slice ca f.code.length cc) := (World.cell?_of_block (a := ⟨fb, k0 * 4 + 3, none⟩) (hga.block fb hfb (by nofun))).trans y0
                          refine wp_region_held_drew (S := SI pb xb (.slice (some ⟨fb, 0, none⟩) (k0 + 1) fc) (.int .i64 op) (.int .i64 0) (.int .i64 0)) (by kernel_rfl) S0 (fun hHeld => ?_)
                          refine held_take 0 139 (.pointer (some ⟨pb, 0, none⟩)) rfl rfl (by kernel_rfl) (by kernel_rfl) (by kernel_rfl) (fun _ _ _ h => h) (Or.inl ⟨by rfl, fun w9 hSw => ?y0⟩) S0 ?_
                          case y0 => obtain ⟨s0, s1, s2, s3, s4, s5⟩ := hSw; go_simp
                          simp only [Act.put, List.setIfInBounds_toArray, List.set_cons_zero, List.set_cons_succ]
                          refine held_take 1 140 (.slice (some ⟨fb, 0, none⟩) (k0 + 1) fc) rfl rfl (by kernel_rfl) (by kernel_rfl) (by kernel_rfl) (fun _ _ _ h => h) (Or.inl ⟨by rfl, fun w9 hSw => ?y1⟩) S0 ?_
                          case y1 => obtain ⟨s0, s1, s2, s3, s4, s5⟩ := hSw; go_simp
                          simp only [Act.put, List.setIfInBounds_toArray, List.set_cons_zero, List.set_cons_succ]
                          refine held_take 2 141 (.int .i64 k0) rfl rfl (by kernel_rfl) (by kernel_rfl) (by kernel_rfl) (fun _ _ _ h => h) (Or.inl ⟨by rfl, fun w9 hSw => ?y2⟩) S0 ?_
                          case y2 => obtain ⟨s0, s1, s2, s3, s4, s5⟩ := hSw; go_simp
                          simp only [Act.put, List.setIfInBounds_toArray, List.set_cons_zero, List.set_cons_succ]
                          refine held_take 3 142 (.pointer (some ⟨pb, 0, none⟩)) rfl rfl (by kernel_rfl) (by kernel_rfl) (by kernel_rfl) (fun _ _ _ h => h) (Or.inl ⟨by rfl, fun w9 hSw => ?y3⟩) S0 ?_
                          case y3 => obtain ⟨s0, s1, s2, s3, s4, s5⟩ := hSw; go_simp
                          simp only [Act.put, List.setIfInBounds_toArray, List.set_cons_zero, List.set_cons_succ]
                          refine held_take 4 143 (.slice (some ⟨fb, 0, none⟩) (k0 + 1) fc) rfl rfl (by kernel_rfl) (by kernel_rfl) (by kernel_rfl) (fun _ _ _ h => h) (Or.inl ⟨by rfl, fun w9 hSw => ?y4⟩) S0 ?_
                          case y4 => obtain ⟨s0, s1, s2, s3, s4, s5⟩ := hSw; go_simp
                          simp only [Act.put, List.setIfInBounds_toArray, List.set_cons_zero, List.set_cons_succ]
                          refine held_take 5 144 (.int .i64 k0) rfl rfl (by kernel_rfl) (by kernel_rfl) (by kernel_rfl) (fun _ _ _ h => h) (Or.inl ⟨by rfl, fun w9 hSw => ?y5⟩) S0 ?_
                          case y5 => obtain ⟨s0, s1, s2, s3, s4, s5⟩ := hSw; go_simp
                          simp only [Act.put, List.setIfInBounds_toArray, List.set_cons_zero, List.set_cons_succ]
                          refine held_take 6 145 (.pointer (some ⟨fb, k0 * 4, none⟩)) rfl rfl (by kernel_rfl) (by kernel_rfl) (by kernel_rfl) (fun _ _ _ h => h) (Or.inl ⟨by rfl, fun w9 hSw => ?y6⟩) S0 ?_
                          case y6 => obtain ⟨s0, s1, s2, s3, s4, s5⟩ := hSw; go_simp; (intro h9; omega)
                          simp only [Act.put, List.setIfInBounds_toArray, List.set_cons_zero, List.set_cons_succ]
                          refine held_take 7 146 (.pointer (some ⟨fb, k0 * 4 + 3, none⟩)) rfl rfl (by kernel_rfl) (by kernel_rfl) (by kernel_rfl) (fun _ _ _ h => h) (Or.inl ⟨by rfl, fun w9 hSw => ?y7⟩) S0 ?_
                          case y7 => obtain ⟨s0, s1, s2, s3, s4, s5⟩ := hSw; go_simp
                          simp only [Act.put, List.setIfInBounds_toArray, List.set_cons_zero, List.set_cons_succ]
                          refine held_take 9 148 (.agg #[.int .i64 op, .int .i64 0, .int .i64 0]) rfl rfl (by kernel_rfl) (by kernel_rfl) (by kernel_rfl) (fun _ _ _ h => h) (Or.inl ⟨by rfl, fun w9 hSw => ?y9⟩) S0 ?_
                          case y9 => obtain ⟨s0, s1, s2, s3, s4, s5⟩ := hSw; go_simp
                          simp only [Act.put, List.setIfInBounds_toArray, List.set_cons_zero, List.set_cons_succ]
                          refine wpAnyH_ready (rs := [8, 10]) (by kernel_rfl) (by simp) (AllReadyH.cons (by rfl) (fun K hK => ?r10_8) (AllReadyH.cons (by rfl) (fun K hK => ?r10_10) (AllReadyH.nil)))
                          case r10_8 =>
                            go_simp
                            refine hK.out _ _ S0 (fun _ => ?_)
                            clear hK K
                            refine wpAnyH_ready (rs := [10]) (by kernel_rfl) (by simp) (AllReadyH.cons (by rfl) (fun K hK => ?r11_10) (AllReadyH.nil))
                            case r11_10 =>
                              go_simp
                              refine hK.out _ _ S1 (fun _ => ?_)
                              clear hK K
                              refine wpAnyH_ready (rs := [11]) (by kernel_rfl) (by simp) (AllReadyH.cons (by rfl) (fun K hK => ?_) AllReadyH.nil)
                              refine step_append_lies _ (by rfl) _ _ _ (by rfl) B 64 ii0 (.agg #[.int .i64 0, .int .i64 0, .int .i64 0]) 3 24 Tryz.underlying46 hii hiz0 hiz1 hiz2 (by rfl) (by decide) _ f.code.length (insCells f.code) (by rfl) ((show w6.drew.ownsRow B 64 3 _ f.code.length (insCells f.code) from HC4.out).alloc _) ⟨w6.heap.size, 0, none⟩ 1 1 [.int .i64 op, .int .i64 0, .int .i64 0] (by simp [Act.eval]) (by rfl) (World.news_of_block (cs := #[.int .i64 op, .int .i64 0, .int .i64 0]) (new_heap w6.drew _)) (by intro u hu; simp at hu; rcases hu with rfl | rfl | rfl <;> rfl) (by decide) (by unfold maxLen; omega) (by omega) (by simp; omega) _ rfl ?_
                              intro g cap w7 hown7 hgrow7 hat7 hlt7
                              have Q7 := Lib.hid ((Q.out.grown hgb (by nofun)).grown hgrow7 (fun q hq => by have := (owns_lt HC4.out q hq).1; omega))
                              have S7 := Lib.hid ((S.out.grown hgb (by nofun)).ins ⟨op, 0, 0⟩ rfl hk0' rfl hown7 (by rw [hfv]; exact hgrow7) (by rw [hfv]; exact hat7))
                              have C7 := Lib.hid (cells_grown (cells_grown C.out (by omega) hgb (by nofun)) (by simp; omega) hgrow7 (fun q hq => by have := (owns_lt HC4.out q hq).1; omega))
                              have hz7 : B ≤ w7.heap.size := (by have := hgrow7.size; simp at this; omega)
                              have hF7 := (hgrow7.block fb (by simp; omega) (fun e => hcapart _ e.symm rfl)).trans (hga.block fb hfb (by nofun))
                              have y7 : w7.cell? ⟨fb, k0 * 4 + 3, none⟩ = some (.slice ca f.code.length cc) := (World.cell?_of_block (a := ⟨fb, k0 * 4 + 3, none⟩) hF7).trans y0
                              have fp7 : w7.frozen? ⟨fb, k0 * 4 + 3, none⟩ = false := (by obtain ⟨cur, hcur⟩ := owns_type Hff.out fb rfl; exact Lib.frozen_of_heap (hF7.trans hcur) _)
                              have S9 := S1.grown hgrow7 (fun e => by have := (owns_lt HC4.out pb e).1; omega) (fun e => hxapart e)
                              refine hK.out _ _ S9 (fun _ => ?_)
                              clear hK K hown7 hgrow7 hat7 hF7
                              refine held_take 12 151 (.pointer (some ⟨fb, k0 * 4, none⟩)) rfl rfl (by kernel_rfl) (by kernel_rfl) (by kernel_rfl) (fun _ _ _ h => h) (Or.inl ⟨by rfl, fun w9 hSw => ?y12⟩) S9 ?_
                              case y12 => obtain ⟨s0, s1, s2, s3, s4, s5⟩ := hSw; go_simp; (intro h9; omega)
                              simp only [Act.put, List.setIfInBounds_toArray, List.set_cons_zero, List.set_cons_succ]
                              refine held_take 13 152 (.pointer (some ⟨fb, k0 * 4 + 3, none⟩)) rfl rfl (by kernel_rfl) (by kernel_rfl) (by kernel_rfl) (fun _ _ _ h => h) (Or.inl ⟨by rfl, fun w9 hSw => ?y13⟩) S9 ?_
                              case y13 => obtain ⟨s0, s1, s2, s3, s4, s5⟩ := hSw; go_simp
                              simp only [Act.put, List.setIfInBounds_toArray, List.set_cons_zero, List.set_cons_succ]
                              refine wpAnyH_ready (rs := [14]) (by kernel_rfl) (by simp) (AllReadyH.cons (by rfl) (fun K hK => ?_) AllReadyH.nil)
                              go_simp
                              refine hK.out _ _ (S9.grown (grown_set _ _ _ _) (fun e => by have := Option.some.inj e; omega) (fun e => hxfb (Option.some.inj e).symm)) (fun _ => ?_)
                              clear hK K
                              refine wpAnyH_done (by kernel_rfl) ?_ _
                              go_wp2_with fail
                              go_roundw
                              case rel => exact ⟨k + 1, _, _, fs0 ++ [(⟨f.c, f.l, f.d, .slice (some ⟨g, 0, none⟩) (f.code.length + 1) cap, f.code ++ [⟨op, 0, 0⟩]⟩ : FunD)], ts, main, by omega, by go_num, Lib.hid (Q7.out.grown (grown_set _ _ _ _) (fun z hz => by cases hz; omega)), S7, Lib.hid (cells_grown C7.out (by omega) (grown_set _ _ _ _) (fun z hz => by cases hz; omega)), Lib.hid (HR'.out _), by simp; omega, by omega, fun y hy => by rcases List.mem_append.1 hy with hy | hy; exact Nat.le_succ_of_le (hcl'.out y (List.mem_append_left _ hy)); (obtain rfl : y = _ := by simpa using hy); (simp; omega), by simp; omega⟩
                              case measure => simp [intOf]; omega
                          case r10_10 =>
                            go_simp
                            refine hK.out _ _ S1 (fun _ => ?_)
                            clear hK K
                            refine wpAnyH_ready (rs := [8]) (by kernel_rfl) (by simp) (AllReadyH.cons (by rfl) (fun K hK => ?r12_8) (AllReadyH.nil))
                            case r12_8 =>
                              go_simp
                              refine hK.out _ _ S1 (fun _ => ?_)
                              clear hK K
                              refine wpAnyH_ready (rs := [11]) (by kernel_rfl) (by simp) (AllReadyH.cons (by rfl) (fun K hK => ?_) AllReadyH.nil)
                              refine step_append_lies _ (by rfl) _ _ _ (by rfl) B 64 ii0 (.agg #[.int .i64 0, .int .i64 0, .int .i64 0]) 3 24 Tryz.underlying46 hii hiz0 hiz1 hiz2 (by rfl) (by decide) _ f.code.length (insCells f.code) (by rfl) ((show w6.drew.ownsRow B 64 3 _ f.code.length (insCells f.code) from HC4.out).alloc _) ⟨w6.heap.size, 0, none⟩ 1 1 [.int .i64 op, .int .i64 0, .int .i64 0] (by simp [Act.eval]) (by rfl) (World.news_of_block (cs := #[.int .i64 op, .int .i64 0, .int .i64 0]) (new_heap w6.drew _)) (by intro u hu; simp at hu; rcases hu with rfl | rfl | rfl <;> rfl) (by decide) (by unfold maxLen; omega) (by omega) (by simp; omega) _ rfl ?_
                              intro g cap w7 hown7 hgrow7 hat7 hlt7
                              have Q7 := Lib.hid ((Q.out.grown hgb (by nofun)).grown hgrow7 (fun q hq => by have := (owns_lt HC4.out q hq).1; omega))
                              have S7 := Lib.hid ((S.out.grown hgb (by nofun)).ins ⟨op, 0, 0⟩ rfl hk0' rfl hown7 (by rw [hfv]; exact hgrow7) (by rw [hfv]; exact hat7))
                              have C7 := Lib.hid (cells_grown (cells_grown C.out (by omega) hgb (by nofun)) (by simp; omega) hgrow7 (fun q hq => by have := (owns_lt HC4.out q hq).1; omega))
                              have hz7 : B ≤ w7.heap.size := (by have := hgrow7.size; simp at this; omega)
                              have hF7 := (hgrow7.block fb (by simp; omega) (fun e => hcapart _ e.symm rfl)).trans (hga.block fb hfb (by nofun))
                              have y7 : w7.cell? ⟨fb, k0 * 4 + 3, none⟩ = some (.slice ca f.code.length cc) := (World.cell?_of_block (a := ⟨fb, k0 * 4 + 3, none⟩) hF7).trans y0
                              have fp7 : w7.frozen? ⟨fb, k0 * 4 + 3, none⟩ = false := (by obtain ⟨cur, hcur⟩ := owns_type Hff.out fb rfl; exact Lib.frozen_of_heap (hF7.trans hcur) _)
                              have S9 := S1.grown hgrow7 (fun e => by have := (owns_lt HC4.out pb e).1; omega) (fun e => hxapart e)
                              refine hK.out _ _ S9 (fun _ => ?_)
                              clear hK K hown7 hgrow7 hat7 hF7
                              refine held_take 12 151 (.pointer (some ⟨fb, k0 * 4, none⟩)) rfl rfl (by kernel_rfl) (by kernel_rfl) (by kernel_rfl) (fun _ _ _ h => h) (Or.inl ⟨by rfl, fun w9 hSw => ?y12⟩) S9 ?_
                              case y12 => obtain ⟨s0, s1, s2, s3, s4, s5⟩ := hSw; go_simp; (intro h9; omega)
                              simp only [Act.put, List.setIfInBounds_toArray, List.set_cons_zero, List.set_cons_succ]
                              refine held_take 13 152 (.pointer (some ⟨fb, k0 * 4 + 3, none⟩)) rfl rfl (by kernel_rfl) (by kernel_rfl) (by kernel_rfl) (fun _ _ _ h => h) (Or.inl ⟨by rfl, fun w9 hSw => ?y13⟩) S9 ?_
                              case y13 => obtain ⟨s0, s1, s2, s3, s4, s5⟩ := hSw; go_simp
                              simp only [Act.put, List.setIfInBounds_toArray, List.set_cons_zero, List.set_cons_succ]
                              refine wpAnyH_ready (rs := [14]) (by kernel_rfl) (by simp) (AllReadyH.cons (by rfl) (fun K hK => ?_) AllReadyH.nil)
                              go_simp
                              refine hK.out _ _ (S9.grown (grown_set _ _ _ _) (fun e => by have := Option.some.inj e; omega) (fun e => hxfb (Option.some.inj e).symm)) (fun _ => ?_)
                              clear hK K
                              refine wpAnyH_done (by kernel_rfl) ?_ _
                              go_wp2_with fail
                              go_roundw
                              case rel => exact ⟨k + 1, _, _, fs0 ++ [(⟨f.c, f.l, f.d, .slice (some ⟨g, 0, none⟩) (f.code.length + 1) cap, f.code ++ [⟨op, 0, 0⟩]⟩ : FunD)], ts, main, by omega, by go_num, Lib.hid (Q7.out.grown (grown_set _ _ _ _) (fun z hz => by cases hz; omega)), S7, Lib.hid (cells_grown C7.out (by omega) (grown_set _ _ _ _) (fun z hz => by cases hz; omega)), Lib.hid (HR'.out _), by simp; omega, by omega, fun y hy => by rcases List.mem_append.1 hy with hy | hy; exact Nat.le_succ_of_le (hcl'.out y (List.mem_append_left _ hy)); (obtain rfl : y = _ := by simpa using hy); (simp; omega), by simp; omega⟩
                              case measure => simp [intOf]; omega
                  · have hop : opU a.data.toList = 0 := by rw [beq_iff_eq.1 hzf]; exact opU_fun
                    clear hA hzf hz
                    have HO := Lib.hid (rop_any a w3)
                    have HN : Hid (readT s.data.toList = none) := foldT_none HRX.out (by rw [hKD, hop, if_pos rfl]; rfl)
                    rw [hop] at HO
                    clear HRX hKD
                    go_wp2_with fail
                    refine HO.out.mono ?_
                    clear HO
                    rintro e w5 ⟨rfl, hb5⟩
                    have hgr := grown_below hb5
                    have Q' := Lib.hid (Q.out.grown hgr (by nofun))
                    have S' := Lib.hid (S.out.grown hgr (by nofun))
                    have C' := Lib.hid (cells_grown C.out (by omega) hgr (by nofun))
                    have hle' := hgr.size
                    clear Q S C hgr
                    have Q := Q'
                    have S := S'
                    have C := C'
                    clear Q' S' C'
                    obtain ⟨z0, z1, z2⟩ := ins_cells Q.out.rs
                    obtain ⟨p0, p1, p2⟩ := ins_cells Q.out.pr
                    have fz0 : (w5).frozen? ⟨w.heap.size, 0, none⟩ = false := Lib.frozen_of_heap Q.out.rs 0
                    have fz1 : (w5).frozen? ⟨w.heap.size, 1, none⟩ = false := Lib.frozen_of_heap Q.out.rs 1
                    have fz2 : (w5).frozen? ⟨w.heap.size, 2, none⟩ = false := Lib.frozen_of_heap Q.out.rs 2
                    have HD := Lib.hid (Q.out.fail)
                    clear Q S
                    go_wp2_with fail
                    refine bodyPost_ret (v := .tuple #[.agg #[.slice none 0 0, .slice none 0 0, .int .i64 0], .int .i64 3]) ?_ rfl ⟨_, _, ⟨[], [], 0⟩, 3, rfl, HD.out.2, isProg_zero _, par_bad HN.out⟩
                    rw [results_cell_tmp (p := 2) (u := 3) (ty := 25) rfl]
                    simp [asAddr, run_loadVar_row _ _ _ _ _ _ _ HD.out.1 Tryz.underlying25 rfl prog_info, Result.andThen]
                · have hop : opU a.data.toList = 0 := by rw [beq_iff_eq.1 hA]; exact opU_main
                  obtain rfl : zf = false := by rw [← hzf, beq_iff_eq.1 hA]; decide
                  clear hA hzf hz
                  have HO := Lib.hid (rop_any a w3)
                  have HN : Hid (readT s.data.toList = none) := foldT_none HRX.out (by rw [hKD, hop, if_pos rfl]; rfl)
                  rw [hop] at HO
                  clear HRX hKD
                  go_wp2_with fail
                  refine HO.out.mono ?_
                  clear HO
                  rintro e w5 ⟨rfl, hb5⟩
                  have hgr := grown_below hb5
                  have Q' := Lib.hid (Q.out.grown hgr (by nofun))
                  have S' := Lib.hid (S.out.grown hgr (by nofun))
                  have C' := Lib.hid (cells_grown C.out (by omega) hgr (by nofun))
                  have hle' := hgr.size
                  clear Q S C hgr
                  have Q := Q'
                  have S := S'
                  have C := C'
                  clear Q' S' C'
                  obtain ⟨z0, z1, z2⟩ := ins_cells Q.out.rs
                  obtain ⟨p0, p1, p2⟩ := ins_cells Q.out.pr
                  have fz0 : (w5).frozen? ⟨w.heap.size, 0, none⟩ = false := Lib.frozen_of_heap Q.out.rs 0
                  have fz1 : (w5).frozen? ⟨w.heap.size, 1, none⟩ = false := Lib.frozen_of_heap Q.out.rs 1
                  have fz2 : (w5).frozen? ⟨w.heap.size, 2, none⟩ = false := Lib.frozen_of_heap Q.out.rs 2
                  have HD := Lib.hid (Q.out.fail)
                  clear Q S
                  go_wp2_with fail
                  refine bodyPost_ret (v := .tuple #[.agg #[.slice none 0 0, .slice none 0 0, .int .i64 0], .int .i64 3]) ?_ rfl ⟨_, _, ⟨[], [], 0⟩, 3, rfl, HD.out.2, isProg_zero _, par_bad HN.out⟩
                  rw [results_cell_tmp (p := 2) (u := 3) (ty := 25) rfl]
                  simp [asAddr, run_loadVar_row _ _ _ _ _ _ _ HD.out.1 Tryz.underlying25 rfl prog_info, Result.andThen]
              · have HNu := Lib.hid (rnumbers_any rest w3 (by omega))
                obtain ⟨ht1, _⟩ := hm1 rfl
                have hF3 := S.out.fns
                have hz3 : B ≤ w3.heap.size := hBV3
                clear hm1 hm0
                go_wp2_with fail
                refine HNu.out.mono ?_
                clear HNu
                rintro e w4 ⟨v, ok, rfl, hb4, hyes, hno⟩
                have hgr := grown_below hb4
                have Q' := Lib.hid (Q.out.grown hgr (by nofun))
                have S' := Lib.hid (S.out.grown hgr (by nofun))
                have C' := Lib.hid (cells_grown C.out (by omega) hgr (by nofun))
                have hle' := hgr.size
                clear Q S C hgr
                have Q := Q'
                have S := S'
                have C := C'
                clear Q' S' C'
                cases ok
                · as_aux_lemma =>
                  obtain ⟨rfl, hnn⟩ := hno rfl
                  have HN : Hid (readT s.data.toList = none) := foldT_none HRX.out (by rw [HKR.out, kR_none hA hns (by rw [ht1]; exact hnn)]; rfl)
                  clear HRX HKR hyes hno hnn ht1 hF3
                  cases A
                  · obtain ⟨z0, z1, z2⟩ := ins_cells Q.out.rs
                    obtain ⟨p0, p1, p2⟩ := ins_cells Q.out.pr
                    have fz0 : (w4).frozen? ⟨w.heap.size, 0, none⟩ = false := Lib.frozen_of_heap Q.out.rs 0
                    have fz1 : (w4).frozen? ⟨w.heap.size, 1, none⟩ = false := Lib.frozen_of_heap Q.out.rs 1
                    have fz2 : (w4).frozen? ⟨w.heap.size, 2, none⟩ = false := Lib.frozen_of_heap Q.out.rs 2
                    have HD := Lib.hid (Q.out.fail)
                    clear Q S
                    go_wp2_with fail
                    refine bodyPost_ret (v := .tuple #[.agg #[.slice none 0 0, .slice none 0 0, .int .i64 0], .int .i64 3]) ?_ rfl ⟨_, _, ⟨[], [], 0⟩, 3, rfl, HD.out.2, isProg_zero _, par_bad HN.out⟩
                    rw [results_cell_tmp (p := 2) (u := 3) (ty := 25) rfl]
                    simp [asAddr, run_loadVar_row _ _ _ _ _ _ _ HD.out.1 Tryz.underlying25 rfl prog_info, Result.andThen]
                  · obtain ⟨z0, z1, z2⟩ := ins_cells Q.out.rs
                    obtain ⟨p0, p1, p2⟩ := ins_cells Q.out.pr
                    have fz0 : (w4).frozen? ⟨w.heap.size, 0, none⟩ = false := Lib.frozen_of_heap Q.out.rs 0
                    have fz1 : (w4).frozen? ⟨w.heap.size, 1, none⟩ = false := Lib.frozen_of_heap Q.out.rs 1
                    have fz2 : (w4).frozen? ⟨w.heap.size, 2, none⟩ = false := Lib.frozen_of_heap Q.out.rs 2
                    have HD := Lib.hid (Q.out.fail)
                    clear Q S
                    go_wp2_with fail
                    refine bodyPost_ret (v := .tuple #[.agg #[.slice none 0 0, .slice none 0 0, .int .i64 0], .int .i64 3]) ?_ rfl ⟨_, _, ⟨[], [], 0⟩, 3, rfl, HD.out.2, isProg_zero _, par_bad HN.out⟩
                    rw [results_cell_tmp (p := 2) (u := 3) (ty := 25) rfl]
                    simp [asAddr, run_loadVar_row _ _ _ _ _ _ _ HD.out.1 Tryz.underlying25 rfl prog_info, Result.andThen]
                · obtain ⟨ns, hn, hnl, hO⟩ := hyes rfl
                  have hnu : numsU (spl 32 x.data.toList).tail = some ns := by rw [ht1]; exact hn
                  have hnp : 0 < ns.length := by
                    have h1 := numsU_len _ _ hn
                    have h2 := List.length_pos_iff.2 (spl_ne 32 rest.data.toList)
                    omega
                  obtain ⟨b, off, c, rfl, hlc, hlt, hcells⟩ := isRow_cells hO rfl hnp
                  have hbb : w3.heap.size ≤ b := (owns_lt hO b (by rcases hO.2 with ⟨h, _⟩ | ⟨g, cap, cur, h, _⟩
                                                                   · cases h
                                                                   · have h2 := (Value.slice.inj h).1; simp at h2; rw [h2.1, h2.2]; rfl)).1
                  have d0 := hcells 0 hnp
                  rw [Nat.add_zero] at d0
                  clear hyes hno hO ht1 hn
                  by_cases hm' : A = true ∧ ns.length = 1
                  · as_aux_lemma =>
                    obtain ⟨rfl, h1⟩ := hm'
                    obtain ⟨n, rfl⟩ : ∃ n, ns = [n] := by
                      match ns, h1 with
                      | [n], _ => exact ⟨n, rfl⟩
                    have hkz : k = 0 := of_decide_eq_true hk0
                    have hk1 : decide (k + 1 = 0) = false := decide_eq_false (by omega)
                    have hLP : lineP true (dat x) = .main n := HKR.out.trans (kR_main hA hns hnu (beq_iff_eq.1 hA) rfl)
                    have HR' : Hid (readT s.data.toList = foldT (decide (k + 1 = 0)) (strip ⟨fs, ts, n⟩) ((ps.drop (k + 1)).map dat)) := by show _ = _; rw [hk1]; exact foldT_some HRX.out (by rw [hLP]; rfl)
                    have d0' : w4.cell? ⟨b, off, none⟩ = some (.int .i64 n) := d0
                    have fp2 : w4.frozen? ⟨pb, 2, none⟩ = false := Lib.frozen_of_heap Q.out.pr 2
                    obtain ⟨p0, p1, p2⟩ := ins_cells Q.out.pr
                    clear HRX HKR hA hk0 hz hcells d0 hkz hLP hzf hF3
                    go_wp2_with fail
                    go_roundw
                    case rel => exact ⟨k + 1, _, _, fs, ts, n, by omega, by go_num, Q.out.set 2 _ rfl, S.out.grown (grown_set _ _ _ _) (fun z hz => by cases hz; exact hB), cells_grown C.out (by omega) (grown_set _ _ _ _) (fun z hz => by cases hz; omega), HR', by omega, by omega, fun f hf => Nat.le_succ_of_le (hcl'.out f hf), by simp; omega⟩
                    case measure => simp [intOf]; omega
                  · by_cases hf' : zf = true ∧ ns.length = 3
                    · as_aux_lemma =>
                      obtain ⟨rfl, h3⟩ := hf'
                      obtain ⟨n1, n2, n3, rfl⟩ : ∃ n1 n2 n3, ns = [n1, n2, n3] := by
                        match ns, h3 with
                        | [n1, n2, n3], _ => exact ⟨n1, n2, n3, rfl⟩
                      have hwf : a.data.toList = wFun := beq_iff_eq.1 hzf
                      obtain rfl : A = false := by rw [← hA, hwf]; decide
                      have hkn : ¬ k = 0 := of_decide_eq_false hk0
                      have hk1 : decide (k + 1 = 0) = false := decide_eq_false (by omega)
                      have hLP : lineP false (dat x) = .fn n1 n2 n3 := HKR.out.trans (kR_fun hA hns hnu (fun h => by have := h.2; cases this) hwf rfl)
                      have HR' : Hid (readT s.data.toList = foldT (decide (k + 1 = 0)) (strip ⟨fs ++ [⟨n1, n2, n3, .slice none 0 0, []⟩], ts, main⟩) ((ps.drop (k + 1)).map dat)) := by
                        show _ = _; rw [hk1]; exact foldT_some HRX.out (by rw [hLP]; simp [stepT, strip, stripF])
                      have d0' : w4.cell? ⟨b, off, none⟩ = some (.int .i64 n1) := d0
                      have d1' : w4.cell? ⟨b, off + 1, none⟩ = some (.int .i64 n2) := hcells 1 (by simp)
                      have d2' : w4.cell? ⟨b, off + 2, none⟩ = some (.int .i64 n3) := hcells 2 (by simp)
                      clear HRX HKR hA hk0 hz hcells d0 hkn hLP hzf hm' hnu
                      go_upto_region 37 with fail
                      have S0 : SA b off (.int .i64 n1) (.int .i64 n2) (.int .i64 n3) w4.drew := ⟨d0', d1', d2', hlt⟩
                      have hga := grown_alloc w4.drew (.cells #[.int .i64 n1, .int .i64 n2, .int .i64 n3, .slice none 0 0] 48)
                      have hgb : w4.grownBy (w4.drew.alloc (.cells #[.int .i64 n1, .int .i64 n2, .int .i64 n3, .slice none 0 0] 48)) none := grown_drawn hga
                      have S1 := S0.grown hga (by nofun)
                      have y0 : w4.drew.cell? ⟨pb, 0, none⟩ = some (.slice fa fs.length fc) := (ins_cells Q.out.pr).1
                      have y1 : (w4.alloc (.cells #[.int .i64 n1, .int .i64 n2, .int .i64 n3, .slice none 0 0] 48)).cell? ⟨pb, 0, none⟩ = some (.slice fa fs.length fc) := (World.cell?_of_block (a := ⟨pb, 0, none⟩) (hga.block pb Q.out.lt (by nofun))).trans y0
                      refine wp_region_held_drew (S := SA b off (.int .i64 n1) (.int .i64 n2) (.int .i64 n3)) (by kernel_rfl) S0 (fun hHeld => ?_)
                      refine held_take 0 173 (.pointer (some ⟨pb, 0, none⟩)) rfl rfl (by kernel_rfl) (by kernel_rfl) (by kernel_rfl) (fun _ _ _ h => h) (Or.inl ⟨by rfl, fun w9 hSw => ?y0⟩) S0 ?_
                      case y0 => obtain ⟨s0, s1, s2, s3⟩ := hSw; go_simp
                      simp only [Act.put, List.setIfInBounds_toArray, List.set_cons_zero, List.set_cons_succ]
                      refine held_take 2 175 (.slice (some ⟨b, off, none⟩) 3 c) rfl rfl (by kernel_rfl) (by kernel_rfl) (by kernel_rfl) (fun _ _ _ h => h) (Or.inl ⟨by rfl, fun w9 hSw => ?y2⟩) S0 ?_
                      case y2 => obtain ⟨s0, s1, s2, s3⟩ := hSw; go_simp
                      simp only [Act.put, List.setIfInBounds_toArray, List.set_cons_zero, List.set_cons_succ]
                      refine held_take 3 176 (.pointer (some ⟨b, off, none⟩)) rfl rfl (by kernel_rfl) (by kernel_rfl) (by kernel_rfl) (fun _ _ _ h => h) (Or.inl ⟨by rfl, fun w9 hSw => ?y3⟩) S0 ?_
                      case y3 => obtain ⟨s0, s1, s2, s3⟩ := hSw; go_simp
                      simp only [Act.put, List.setIfInBounds_toArray, List.set_cons_zero, List.set_cons_succ]
                      refine held_take 4 177 (.int .i64 n1) rfl rfl (by kernel_rfl) (by kernel_rfl) (by kernel_rfl) (fun _ _ _ h => h) (Or.inl ⟨by rfl, fun w9 hSw => ?y4⟩) S0 ?_
                      case y4 => obtain ⟨s0, s1, s2, s3⟩ := hSw; go_simp
                      simp only [Act.put, List.setIfInBounds_toArray, List.set_cons_zero, List.set_cons_succ]
                      refine held_take 5 178 (.slice (some ⟨b, off, none⟩) 3 c) rfl rfl (by kernel_rfl) (by kernel_rfl) (by kernel_rfl) (fun _ _ _ h => h) (Or.inl ⟨by rfl, fun w9 hSw => ?y5⟩) S0 ?_
                      case y5 => obtain ⟨s0, s1, s2, s3⟩ := hSw; go_simp
                      simp only [Act.put, List.setIfInBounds_toArray, List.set_cons_zero, List.set_cons_succ]
                      refine held_take 6 179 (.pointer (some ⟨b, off + 1, none⟩)) rfl rfl (by kernel_rfl) (by kernel_rfl) (by kernel_rfl) (fun _ _ _ h => h) (Or.inl ⟨by rfl, fun w9 hSw => ?y6⟩) S0 ?_
                      case y6 => obtain ⟨s0, s1, s2, s3⟩ := hSw; go_simp
                      simp only [Act.put, List.setIfInBounds_toArray, List.set_cons_zero, List.set_cons_succ]
                      refine held_take 7 180 (.int .i64 n2) rfl rfl (by kernel_rfl) (by kernel_rfl) (by kernel_rfl) (fun _ _ _ h => h) (Or.inl ⟨by rfl, fun w9 hSw => ?y7⟩) S0 ?_
                      case y7 => obtain ⟨s0, s1, s2, s3⟩ := hSw; go_simp
                      simp only [Act.put, List.setIfInBounds_toArray, List.set_cons_zero, List.set_cons_succ]
                      refine held_take 8 181 (.slice (some ⟨b, off, none⟩) 3 c) rfl rfl (by kernel_rfl) (by kernel_rfl) (by kernel_rfl) (fun _ _ _ h => h) (Or.inl ⟨by rfl, fun w9 hSw => ?y8⟩) S0 ?_
                      case y8 => obtain ⟨s0, s1, s2, s3⟩ := hSw; go_simp
                      simp only [Act.put, List.setIfInBounds_toArray, List.set_cons_zero, List.set_cons_succ]
                      refine held_take 9 182 (.pointer (some ⟨b, off + 2, none⟩)) rfl rfl (by kernel_rfl) (by kernel_rfl) (by kernel_rfl) (fun _ _ _ h => h) (Or.inl ⟨by rfl, fun w9 hSw => ?y9⟩) S0 ?_
                      case y9 => obtain ⟨s0, s1, s2, s3⟩ := hSw; go_simp
                      simp only [Act.put, List.setIfInBounds_toArray, List.set_cons_zero, List.set_cons_succ]
                      refine held_take 10 183 (.int .i64 n3) rfl rfl (by kernel_rfl) (by kernel_rfl) (by kernel_rfl) (fun _ _ _ h => h) (Or.inl ⟨by rfl, fun w9 hSw => ?y10⟩) S0 ?_
                      case y10 => obtain ⟨s0, s1, s2, s3⟩ := hSw; go_simp
                      simp only [Act.put, List.setIfInBounds_toArray, List.set_cons_zero, List.set_cons_succ]
                      refine held_take 11 184 (.agg #[.int .i64 n1, .int .i64 n2, .int .i64 n3, .slice none 0 0]) rfl rfl (by kernel_rfl) (by kernel_rfl) (by kernel_rfl) (fun _ _ _ h => h) (Or.inl ⟨by rfl, fun w9 hSw => ?y11⟩) S0 ?_
                      case y11 => obtain ⟨s0, s1, s2, s3⟩ := hSw; go_simp
                      simp only [Act.put, List.setIfInBounds_toArray, List.set_cons_zero, List.set_cons_succ]
                      refine wpAnyH_ready (rs := [1, 12]) (by kernel_rfl) (by simp) (AllReadyH.cons (by rfl) (fun K hK => ?r1_1) (AllReadyH.cons (by rfl) (fun K hK => ?r1_12) (AllReadyH.nil)))
                      case r1_1 =>
                        go_simp
                        refine hK.out _ _ S0 (fun _ => ?_)
                        clear hK K
                        refine wpAnyH_ready (rs := [12]) (by kernel_rfl) (by simp) (AllReadyH.cons (by rfl) (fun K hK => ?r2_12) (AllReadyH.nil))
                        case r2_12 =>
                          go_simp
                          refine hK.out _ _ S1 (fun _ => ?_)
                          clear hK K
                          refine wpAnyH_ready (rs := [13]) (by kernel_rfl) (by simp) (AllReadyH.cons (by rfl) (fun K hK => ?_) AllReadyH.nil)
                          refine step_append_lies _ (by rfl) _ _ _ (by rfl) B 48 if0 (.agg #[.int .i64 0, .int .i64 0, .int .i64 0, .slice none 0 0]) 4 48 Tryz.underlying22 hif hfz0 hfz1 hfz2 (by rfl) (by decide) _ fs.length (funCells fs) (by rfl) ((show w4.drew.ownsRow B 48 4 _ fs.length (funCells fs) from S.out.fns).alloc _) ⟨w4.heap.size, 0, none⟩ 1 1 [.int .i64 n1, .int .i64 n2, .int .i64 n3, .slice none 0 0] (by simp [Act.eval]) (by rfl) (World.news_of_block (cs := #[.int .i64 n1, .int .i64 n2, .int .i64 n3, .slice none 0 0]) (new_heap w4.drew _)) (by intro u hu; simp at hu; rcases hu with rfl | rfl | rfl | rfl <;> rfl) (by decide) (by unfold maxLen; omega) (by omega) (by simp; omega) _ rfl ?_
                          intro g cap w7 hown7 hgrow7 hat7 hlt7
                          have Q7 := Lib.hid ((Q.out.grown hgb (by nofun)).grown hgrow7 (fun q hq => by have := (owns_lt S.out.fns q hq).1; omega))
                          have S7 := Lib.hid ((S.out.grown hgb (by nofun)).fn n1 n2 n3 rfl hown7 hgrow7)
                          have C7 := Lib.hid (cells_grown (cells_grown C.out (by omega) hgb (by nofun)) (by simp; omega) hgrow7 (fun q hq => by have := (owns_lt S.out.fns q hq).1; omega))
                          have hz7 : B ≤ w7.heap.size := (by have := hgrow7.size; simp at this; omega)
                          have fp0 : w7.frozen? ⟨pb, 0, none⟩ = false := Lib.frozen_of_heap Q7.out.pr 0
                          obtain ⟨q0, q1, q2⟩ := ins_cells Q7.out.pr
                          have S9 := S1.grown hgrow7 (fun e => by have := (owns_lt hF3 b e).2; omega)
                          refine hK.out _ _ S9 (fun _ => ?_)
                          clear hK K hown7 hgrow7 hat7
                          refine held_take 14 187 (.pointer (some ⟨pb, 0, none⟩)) rfl rfl (by kernel_rfl) (by kernel_rfl) (by kernel_rfl) (fun _ _ _ h => h) (Or.inl ⟨by rfl, fun w9 hSw => ?y14⟩) S9 ?_
                          case y14 => obtain ⟨s0, s1, s2, s3⟩ := hSw; go_simp
                          simp only [Act.put, List.setIfInBounds_toArray, List.set_cons_zero, List.set_cons_succ]
                          refine wpAnyH_ready (rs := [15]) (by kernel_rfl) (by simp) (AllReadyH.cons (by rfl) (fun K hK => ?_) AllReadyH.nil)
                          go_simp
                          refine hK.out _ _ (S9.grown (grown_set _ _ _ _) (fun e => by have := Option.some.inj e; omega)) (fun _ => ?_)
                          clear hK K
                          refine wpAnyH_done (by kernel_rfl) ?_ _
                          go_wp2_with fail
                          go_roundw
                          case rel => exact ⟨k + 1, _, _, fs ++ [(⟨n1, n2, n3, .slice none 0 0, []⟩ : FunD)], ts, main, by omega, by go_num, Lib.hid (Q7.out.set 0 _ rfl), Lib.hid (S7.out.grown (grown_set _ _ _ _) (fun z hz => by cases hz; exact hB)), Lib.hid (cells_grown C7.out (by omega) (grown_set _ _ _ _) (fun z hz => by cases hz; omega)), HR', by simp; omega, by omega, fun y hy => by rcases List.mem_append.1 hy with hy | hy; exact Nat.le_succ_of_le (hcl'.out y hy); (obtain rfl : y = _ := by simpa using hy); exact Nat.zero_le _, by simp; omega⟩
                          case measure => simp [intOf]; omega
                      case r1_12 =>
                        go_simp
                        refine hK.out _ _ S1 (fun _ => ?_)
                        clear hK K
                        refine wpAnyH_ready (rs := [1]) (by kernel_rfl) (by simp) (AllReadyH.cons (by rfl) (fun K hK => ?r3_1) (AllReadyH.nil))
                        case r3_1 =>
                          go_simp
                          refine hK.out _ _ S1 (fun _ => ?_)
                          clear hK K
                          refine wpAnyH_ready (rs := [13]) (by kernel_rfl) (by simp) (AllReadyH.cons (by rfl) (fun K hK => ?_) AllReadyH.nil)
                          refine step_append_lies _ (by rfl) _ _ _ (by rfl) B 48 if0 (.agg #[.int .i64 0, .int .i64 0, .int .i64 0, .slice none 0 0]) 4 48 Tryz.underlying22 hif hfz0 hfz1 hfz2 (by rfl) (by decide) _ fs.length (funCells fs) (by rfl) ((show w4.drew.ownsRow B 48 4 _ fs.length (funCells fs) from S.out.fns).alloc _) ⟨w4.heap.size, 0, none⟩ 1 1 [.int .i64 n1, .int .i64 n2, .int .i64 n3, .slice none 0 0] (by simp [Act.eval]) (by rfl) (World.news_of_block (cs := #[.int .i64 n1, .int .i64 n2, .int .i64 n3, .slice none 0 0]) (new_heap w4.drew _)) (by intro u hu; simp at hu; rcases hu with rfl | rfl | rfl | rfl <;> rfl) (by decide) (by unfold maxLen; omega) (by omega) (by simp; omega) _ rfl ?_
                          intro g cap w7 hown7 hgrow7 hat7 hlt7
                          have Q7 := Lib.hid ((Q.out.grown hgb (by nofun)).grown hgrow7 (fun q hq => by have := (owns_lt S.out.fns q hq).1; omega))
                          have S7 := Lib.hid ((S.out.grown hgb (by nofun)).fn n1 n2 n3 rfl hown7 hgrow7)
                          have C7 := Lib.hid (cells_grown (cells_grown C.out (by omega) hgb (by nofun)) (by simp; omega) hgrow7 (fun q hq => by have := (owns_lt S.out.fns q hq).1; omega))
                          have hz7 : B ≤ w7.heap.size := (by have := hgrow7.size; simp at this; omega)
                          have fp0 : w7.frozen? ⟨pb, 0, none⟩ = false := Lib.frozen_of_heap Q7.out.pr 0
                          obtain ⟨q0, q1, q2⟩ := ins_cells Q7.out.pr
                          have S9 := S1.grown hgrow7 (fun e => by have := (owns_lt hF3 b e).2; omega)
                          refine hK.out _ _ S9 (fun _ => ?_)
                          clear hK K hown7 hgrow7 hat7
                          refine held_take 14 187 (.pointer (some ⟨pb, 0, none⟩)) rfl rfl (by kernel_rfl) (by kernel_rfl) (by kernel_rfl) (fun _ _ _ h => h) (Or.inl ⟨by rfl, fun w9 hSw => ?y14⟩) S9 ?_
                          case y14 => obtain ⟨s0, s1, s2, s3⟩ := hSw; go_simp
                          simp only [Act.put, List.setIfInBounds_toArray, List.set_cons_zero, List.set_cons_succ]
                          refine wpAnyH_ready (rs := [15]) (by kernel_rfl) (by simp) (AllReadyH.cons (by rfl) (fun K hK => ?_) AllReadyH.nil)
                          go_simp
                          refine hK.out _ _ (S9.grown (grown_set _ _ _ _) (fun e => by have := Option.some.inj e; omega)) (fun _ => ?_)
                          clear hK K
                          refine wpAnyH_done (by kernel_rfl) ?_ _
                          go_wp2_with fail
                          go_roundw
                          case rel => exact ⟨k + 1, _, _, fs ++ [(⟨n1, n2, n3, .slice none 0 0, []⟩ : FunD)], ts, main, by omega, by go_num, Lib.hid (Q7.out.set 0 _ rfl), Lib.hid (S7.out.grown (grown_set _ _ _ _) (fun z hz => by cases hz; exact hB)), Lib.hid (cells_grown C7.out (by omega) (grown_set _ _ _ _) (fun z hz => by cases hz; omega)), HR', by simp; omega, by omega, fun y hy => by rcases List.mem_append.1 hy with hy | hy; exact Nat.le_succ_of_le (hcl'.out y hy); (obtain rfl : y = _ := by simpa using hy); exact Nat.zero_le _, by simp; omega⟩
                          case measure => simp [intOf]; omega
                    · have hKD : lineP A (dat x) = if opU a.data.toList = 0 then .bad else insU' (opU a.data.toList) (some ns) := HKR.out.trans (kR_ins hA hns hnu (fun h => hm' ⟨by rw [← hA, h.1]; rfl, h.2⟩) (fun h => hf' ⟨by rw [← hzf, h.1]; rfl, h.2⟩))
                      clear HKR hnu hF3
                      cases A
                      · have hk1 : decide (k + 1 = 0) = false := decide_eq_false (by omega)
                        cases zf
                        · clear hA hzf hz hm' hf'
                          match ns, hnl, hnp, hlc, hcells, d0, hKD with
                          | [x1], hnl, hnp, hlc, hcells, d0, hKD => as_aux_lemma =>
                            have d0 : w4.cell? ⟨b, off + 0, none⟩ = some (.int .i64 x1) := d0
                            clear hcells
                            obtain ⟨op, hop⟩ : ∃ op, opU a.data.toList = op := ⟨_, rfl⟩
                            by_cases hop0 : op = 0
                            · subst hop0
                              have HO := Lib.hid (rop_any a w4)
                              have HN : Hid (readT s.data.toList = none) := foldT_none HRX.out (by rw [hKD, hop, if_pos rfl]; rfl)
                              rw [hop] at HO
                              clear HRX hKD
                              go_wp2_with fail
                              refine HO.out.mono ?_
                              clear HO
                              rintro e w5 ⟨rfl, hb5⟩
                              have hgr := grown_below hb5
                              have Q' := Lib.hid (Q.out.grown hgr (by nofun))
                              have S' := Lib.hid (S.out.grown hgr (by nofun))
                              have C' := Lib.hid (cells_grown C.out (by omega) hgr (by nofun))
                              have hle' := hgr.size
                              clear Q S C hgr
                              have Q := Q'
                              have S := S'
                              have C := C'
                              clear Q' S' C'
                              obtain ⟨z0, z1, z2⟩ := ins_cells Q.out.rs
                              obtain ⟨p0, p1, p2⟩ := ins_cells Q.out.pr
                              have fz0 : (w5).frozen? ⟨w.heap.size, 0, none⟩ = false := Lib.frozen_of_heap Q.out.rs 0
                              have fz1 : (w5).frozen? ⟨w.heap.size, 1, none⟩ = false := Lib.frozen_of_heap Q.out.rs 1
                              have fz2 : (w5).frozen? ⟨w.heap.size, 2, none⟩ = false := Lib.frozen_of_heap Q.out.rs 2
                              have HD := Lib.hid (Q.out.fail)
                              clear Q S
                              go_wp2_with fail
                              refine bodyPost_ret (v := .tuple #[.agg #[.slice none 0 0, .slice none 0 0, .int .i64 0], .int .i64 3]) ?_ rfl ⟨_, _, ⟨[], [], 0⟩, 3, rfl, HD.out.2, isProg_zero _, par_bad HN.out⟩
                              rw [results_cell_tmp (p := 2) (u := 3) (ty := 25) rfl]
                              simp [asAddr, run_loadVar_row _ _ _ _ _ _ _ HD.out.1 Tryz.underlying25 rfl prog_info, Result.andThen]
                            · have fo : (op == 0) = false := beq_eq_false_iff_ne.2 hop0
                              rw [hop, if_neg hop0] at hKD
                              have HO := Lib.hid (rop_any a w4)
                              rw [hop] at HO
                              go_wp2_with fail
                              refine HO.out.mono ?_
                              clear HO
                              rintro e w5 ⟨rfl, hb5⟩
                              have hgr := grown_below hb5
                              have Q' := Lib.hid (Q.out.grown hgr (by nofun))
                              have S' := Lib.hid (S.out.grown hgr (by nofun))
                              have C' := Lib.hid (cells_grown C.out (by omega) hgr (by nofun))
                              have hle' := hgr.size
                              clear Q S C hgr
                              have Q := Q'
                              have S := S'
                              have C := C'
                              clear Q' S' C'
                              have dc5 := fun (i : Nat) (v : Value) (h : w4.cell? ⟨b, off + i, none⟩ = some v) => (hb5.cell (p := ⟨b, off + i, none⟩) hlt).trans h
                              by_cases hf0 : fs.length = 0
                              · obtain rfl : fs = [] := List.length_eq_zero_iff.1 hf0
                                have HN : Hid (readT s.data.toList = none) := foldT_none HRX.out (by rw [hKD]; exact step_ins_none _ _ _ rfl)
                                have Q0 : Hid (RSt w w5 pb (.slice fa 0 fc) (.slice ta ts.length tc) main) := Q
                                have S0 : Hid (PSt w5 B (.slice fa 0 fc) (.slice ta ts.length tc) [] ts) := S
                                clear HRX hKD hf0 Q S
                                have Q := Q0
                                have S := S0
                                clear Q0 S0
                                obtain ⟨z0, z1, z2⟩ := ins_cells Q.out.rs
                                obtain ⟨p0, p1, p2⟩ := ins_cells Q.out.pr
                                have fz0 : (w5).frozen? ⟨w.heap.size, 0, none⟩ = false := Lib.frozen_of_heap Q.out.rs 0
                                have fz1 : (w5).frozen? ⟨w.heap.size, 1, none⟩ = false := Lib.frozen_of_heap Q.out.rs 1
                                have fz2 : (w5).frozen? ⟨w.heap.size, 2, none⟩ = false := Lib.frozen_of_heap Q.out.rs 2
                                have HD := Lib.hid (Q.out.fail)
                                clear Q S
                                go_wp2_with fail
                                refine bodyPost_ret (v := .tuple #[.agg #[.slice none 0 0, .slice none 0 0, .int .i64 0], .int .i64 3]) ?_ rfl ⟨_, _, ⟨[], [], 0⟩, 3, rfl, HD.out.2, isProg_zero _, par_bad HN.out⟩
                                rw [results_cell_tmp (p := 2) (u := 3) (ty := 25) rfl]
                                simp [asAddr, run_loadVar_row _ _ _ _ _ _ _ HD.out.1 Tryz.underlying25 rfl prog_info, Result.andThen]
                              · have hfp : 0 < fs.length := by omega
                                have ffb : ((fs.length : Int) == 0) = false := beq_eq_false_iff_ne.2 (by omega)
                                have HOp := Lib.hid (operands_any op w5)
                                obtain ⟨q0, q1, q2⟩ := ins_cells Q.out.pr
                                by_cases hlen : (1 : Int) = opnds op
                                rotate_left
                                · have fne : ((1 : Int) != opnds op) = true := bne_of (beq_eq_false_iff_ne.2 hlen)
                                  have HN : Hid (readT s.data.toList = none) := foldT_none HRX.out (by rw [hKD]; unfold insU'; simp only; rw [if_neg (by simpa using hlen)]; rfl)
                                  clear HRX hKD
                                  obtain ⟨z0, z1, z2⟩ := ins_cells Q.out.rs
                                  obtain ⟨p0, p1, p2⟩ := ins_cells Q.out.pr
                                  have fz0 : (w5).frozen? ⟨w.heap.size, 0, none⟩ = false := Lib.frozen_of_heap Q.out.rs 0
                                  have fz1 : (w5).frozen? ⟨w.heap.size, 1, none⟩ = false := Lib.frozen_of_heap Q.out.rs 1
                                  have fz2 : (w5).frozen? ⟨w.heap.size, 2, none⟩ = false := Lib.frozen_of_heap Q.out.rs 2
                                  have HD := Lib.hid (Q.out.fail)
                                  clear Q S
                                  go_wp2_with (go_at_call 38; refine HOp.out.mono ?_; rintro e w6 ⟨rfl, rfl⟩)
                                  refine bodyPost_ret (v := .tuple #[.agg #[.slice none 0 0, .slice none 0 0, .int .i64 0], .int .i64 3]) ?_ rfl ⟨_, _, ⟨[], [], 0⟩, 3, rfl, HD.out.2, isProg_zero _, par_bad HN.out⟩
                                  rw [results_cell_tmp (p := 2) (u := 3) (ty := 25) rfl]
                                  simp [asAddr, run_loadVar_row _ _ _ _ _ _ _ HD.out.1 Tryz.underlying25 rfl prog_info, Result.andThen]
                                · rw [← hlen] at HOp
                                  have Hlen := Lib.hid hlen
                                  clear hlen
                                  have hlp' : lineP false (dat x) = .ins ⟨op, x1, 0⟩ := hKD.trans (by unfold insU'; simp only; rw [if_pos (by simpa using Hlen.out)]; rfl)
                                  obtain ⟨fs0, f, rfl⟩ : ∃ fs0 f, fs = fs0 ++ [f] := by
                                    rcases List.eq_nil_or_concat fs with h | ⟨a, b, h⟩
                                    · exact absurd (by rw [h]; rfl) hf0
                                    · exact ⟨a, b, by rw [h, List.concat_eq_append]⟩
                                  obtain ⟨k0, hk0'⟩ : ∃ k0, fs0.length = k0 := ⟨_, rfl⟩
                                  have hfl1 : (fs0 ++ [f]).length = k0 + 1 := by simp [hk0']
                                  rw [hfl1] at hfl hfp hf0 Q S q0 ffb
                                  have HR' : Hid (∀ cv, readT s.data.toList = foldT (decide (k + 1 = 0)) (strip ⟨fs0 ++ [⟨f.c, f.l, f.d, cv, f.code ++ [⟨op, x1, 0⟩]⟩], ts, main⟩) ((ps.drop (k + 1)).map dat)) := fun cv => by
                                    rw [hk1]; exact foldT_some HRX.out (by rw [hlp']; simp [stepT, strip, stripF])
                                  have hwr : IntKind.i64.wrap (((k0 + 1 : Nat) : Int) - 1) = (k0 : Int) := by rw [show ((k0 + 1 : Nat) : Int) - 1 = (k0 : Int) by omega]; exact wrap_ok _ (by omega) (by omega)
                                  clear HRX hKD hlp'
                                  have u0 : (w5.alloc (.cells #[.int .i64 op, .int .i64 0, .int .i64 0] 64)).cell? ⟨b, off, none⟩ = some (.int .i64 x1) := (World.cell?_of_block (a := ⟨b, off, none⟩) ((grown_alloc w5 (.cells #[.int .i64 op, .int .i64 0, .int .i64 0] 64)).block b (by have := hb5.size; omega) (by nofun))).trans (dc5 0 _ d0)
                                  have hIc := new_heap w5 (.cells #[.int .i64 op, .int .i64 x1, .int .i64 0] 64)
                                  have hg1 := grown_alloc w5 (.cells #[.int .i64 op, .int .i64 x1, .int .i64 0] 64)
                                  have hO5 := S.out.code
                                  have hF5 := S.out.fns
                                  have Q6 := Lib.hid (Q.out.grown hg1 (by nofun))
                                  have S6 := Lib.hid (S.out.grown hg1 (by nofun))
                                  have C6 := Lib.hid (cells_grown C.out (by omega) hg1 (by nofun))
                                  have q6 : (w5.alloc (.cells #[.int .i64 op, .int .i64 x1, .int .i64 0] 64)).cell? ⟨pb, 0, none⟩ = some (.slice fa (k0 + 1) fc) := (ins_cells Q6.out.pr).1
                                  have hI6 : (w5.alloc (.cells #[.int .i64 op, .int .i64 x1, .int .i64 0] 64)).heap[w5.heap.size]? = some (.cells #[.int .i64 op, .int .i64 x1, .int .i64 0] 64 (0, 0)) := hIc
                                  have hsz6 := hg1.size
                                  go_upto_region 33 with (go_at_call 38; refine HOp.out.mono ?_; rintro e w6 ⟨rfl, rfl⟩)
                                  generalize (w5.alloc (.cells #[.int .i64 op, .int .i64 x1, .int .i64 0] 64)) = w6 at *
                                  obtain ⟨xb, hxb⟩ : ∃ xb, w5.heap.size = xb := ⟨_, rfl⟩
                                  rw [hxb] at hI6 ⊢
                                  clear Q S C
                                  have Q := Q6
                                  have S := S6
                                  have C := C6
                                  clear Q6 S6 C6
                                  have hcode := S.out.code f (by simp)
                                  obtain ⟨ca, cc, hfv⟩ := owns_slice_n hcode
                                  have hrow := isRow_owns S.out.fns
                                  rw [hfl1] at hrow
                                  obtain ⟨a', c', hv', hlc', hcell'⟩ := hrow
                                  obtain ⟨fb, foff, rfl, hfb, hfc⟩ := hcell' (by omega)
                                  have e1 := (Value.slice.inj hv').1
                                  have e2 := (Value.slice.inj hv').2.2
                                  subst e1 e2
                                  have hoff : foff = 0 := by
                                    rcases S.out.fns.2 with ⟨h, _⟩ | ⟨g, cap, cur, h, _⟩
                                    · cases h
                                    · have h2 := (Value.slice.inj h).1; simp at h2; exact h2.2
                                  subst hoff
                                  have c3 := hfc (k0 * 4 + 3) (by rw [funCells_length, hfl1]; omega)
                                  rw [(funCells_at (fs0 ++ [f]) k0 (by omega)).2.2.2, show (fs0 ++ [f]).getD k0 default = f by subst hk0'; simp [List.getD]] at c3
                                  rw [hfv, Nat.zero_add] at c3
                                  have hfl2 : f.code.length ≤ k := hcl'.out f (by simp)
                                  have hffb := S.out.fns
                                  have hfbl := (owns_lt hffb fb rfl).1
                                  rw [hfl1] at hffb
                                  have Hff := Lib.hid hffb
                                  have hcapart : ∀ q, (Value.slice ca f.code.length cc).ownBlock = some q → q ≠ fb := fun q hq e => by subst e; exact owns_apart hcode S.out.fns (by decide) q (by rw [hfv]; exact hq) rfl
                                  rw [hfv] at hcode
                                  have HC4 := Lib.hid hcode
                                  have hxapart : (Value.slice ca f.code.length cc).ownBlock ≠ some xb := fun e => by have h1 := owns_lt (hO5 f (by simp)) xb (by rw [hfv]; exact e); omega
                                  have hxfb : xb ≠ fb := fun e => by have h1 := owns_lt hF5 fb rfl; omega
                                  clear hfc hcell' hcode hffb
                                  have S0 : SI pb xb (.slice (some ⟨fb, 0, none⟩) (k0 + 1) fc) (.int .i64 op) (.int .i64 x1) (.int .i64 0) w6.drew := ⟨(ins_cells Q.out.pr).1, (ins_cells hI6).1, (ins_cells hI6).2.1, (ins_cells hI6).2.2, Q.out.lt, heap_lt hI6⟩
                                  have hga := grown_alloc w6.drew (.cells #[.int .i64 op, .int .i64 x1, .int .i64 0] 64)
                                  have hgb : w6.grownBy (w6.drew.alloc (.cells #[.int .i64 op, .int .i64 x1, .int .i64 0] 64)) none := grown_drawn hga
                                  have S1 := S0.grown hga (by nofun) (by nofun)
                                  have y0 : w6.drew.cell? ⟨fb, k0 * 4 + 3, none⟩ = some (.slice ca f.code.length cc) := c3
                                  have y1 : (w6.alloc (.cells #[.int .i64 op, .int .i64 x1, .int .i64 0] 64)).cell? ⟨fb, k0 * 4 + 3, none⟩ = some (.slice ca f.code.length cc) := (World.cell?_of_block (a := ⟨fb, k0 * 4 + 3, none⟩) (hga.block fb hfb (by nofun))).trans y0
                                  refine wp_region_held_drew (S := SI pb xb (.slice (some ⟨fb, 0, none⟩) (k0 + 1) fc) (.int .i64 op) (.int .i64 x1) (.int .i64 0)) (by kernel_rfl) S0 (fun hHeld => ?_)
                                  refine held_take 0 139 (.pointer (some ⟨pb, 0, none⟩)) rfl rfl (by kernel_rfl) (by kernel_rfl) (by kernel_rfl) (fun _ _ _ h => h) (Or.inl ⟨by rfl, fun w9 hSw => ?y0⟩) S0 ?_
                                  case y0 => obtain ⟨s0, s1, s2, s3, s4, s5⟩ := hSw; go_simp
                                  simp only [Act.put, List.setIfInBounds_toArray, List.set_cons_zero, List.set_cons_succ]
                                  refine held_take 1 140 (.slice (some ⟨fb, 0, none⟩) (k0 + 1) fc) rfl rfl (by kernel_rfl) (by kernel_rfl) (by kernel_rfl) (fun _ _ _ h => h) (Or.inl ⟨by rfl, fun w9 hSw => ?y1⟩) S0 ?_
                                  case y1 => obtain ⟨s0, s1, s2, s3, s4, s5⟩ := hSw; go_simp
                                  simp only [Act.put, List.setIfInBounds_toArray, List.set_cons_zero, List.set_cons_succ]
                                  refine held_take 2 141 (.int .i64 k0) rfl rfl (by kernel_rfl) (by kernel_rfl) (by kernel_rfl) (fun _ _ _ h => h) (Or.inl ⟨by rfl, fun w9 hSw => ?y2⟩) S0 ?_
                                  case y2 => obtain ⟨s0, s1, s2, s3, s4, s5⟩ := hSw; go_simp
                                  simp only [Act.put, List.setIfInBounds_toArray, List.set_cons_zero, List.set_cons_succ]
                                  refine held_take 3 142 (.pointer (some ⟨pb, 0, none⟩)) rfl rfl (by kernel_rfl) (by kernel_rfl) (by kernel_rfl) (fun _ _ _ h => h) (Or.inl ⟨by rfl, fun w9 hSw => ?y3⟩) S0 ?_
                                  case y3 => obtain ⟨s0, s1, s2, s3, s4, s5⟩ := hSw; go_simp
                                  simp only [Act.put, List.setIfInBounds_toArray, List.set_cons_zero, List.set_cons_succ]
                                  refine held_take 4 143 (.slice (some ⟨fb, 0, none⟩) (k0 + 1) fc) rfl rfl (by kernel_rfl) (by kernel_rfl) (by kernel_rfl) (fun _ _ _ h => h) (Or.inl ⟨by rfl, fun w9 hSw => ?y4⟩) S0 ?_
                                  case y4 => obtain ⟨s0, s1, s2, s3, s4, s5⟩ := hSw; go_simp
                                  simp only [Act.put, List.setIfInBounds_toArray, List.set_cons_zero, List.set_cons_succ]
                                  refine held_take 5 144 (.int .i64 k0) rfl rfl (by kernel_rfl) (by kernel_rfl) (by kernel_rfl) (fun _ _ _ h => h) (Or.inl ⟨by rfl, fun w9 hSw => ?y5⟩) S0 ?_
                                  case y5 => obtain ⟨s0, s1, s2, s3, s4, s5⟩ := hSw; go_simp
                                  simp only [Act.put, List.setIfInBounds_toArray, List.set_cons_zero, List.set_cons_succ]
                                  refine held_take 6 145 (.pointer (some ⟨fb, k0 * 4, none⟩)) rfl rfl (by kernel_rfl) (by kernel_rfl) (by kernel_rfl) (fun _ _ _ h => h) (Or.inl ⟨by rfl, fun w9 hSw => ?y6⟩) S0 ?_
                                  case y6 => obtain ⟨s0, s1, s2, s3, s4, s5⟩ := hSw; go_simp; (intro h9; omega)
                                  simp only [Act.put, List.setIfInBounds_toArray, List.set_cons_zero, List.set_cons_succ]
                                  refine held_take 7 146 (.pointer (some ⟨fb, k0 * 4 + 3, none⟩)) rfl rfl (by kernel_rfl) (by kernel_rfl) (by kernel_rfl) (fun _ _ _ h => h) (Or.inl ⟨by rfl, fun w9 hSw => ?y7⟩) S0 ?_
                                  case y7 => obtain ⟨s0, s1, s2, s3, s4, s5⟩ := hSw; go_simp
                                  simp only [Act.put, List.setIfInBounds_toArray, List.set_cons_zero, List.set_cons_succ]
                                  refine held_take 9 148 (.agg #[.int .i64 op, .int .i64 x1, .int .i64 0]) rfl rfl (by kernel_rfl) (by kernel_rfl) (by kernel_rfl) (fun _ _ _ h => h) (Or.inl ⟨by rfl, fun w9 hSw => ?y9⟩) S0 ?_
                                  case y9 => obtain ⟨s0, s1, s2, s3, s4, s5⟩ := hSw; go_simp
                                  simp only [Act.put, List.setIfInBounds_toArray, List.set_cons_zero, List.set_cons_succ]
                                  refine wpAnyH_ready (rs := [8, 10]) (by kernel_rfl) (by simp) (AllReadyH.cons (by rfl) (fun K hK => ?r4_8) (AllReadyH.cons (by rfl) (fun K hK => ?r4_10) (AllReadyH.nil)))
                                  case r4_8 =>
                                    go_simp
                                    refine hK.out _ _ S0 (fun _ => ?_)
                                    clear hK K
                                    refine wpAnyH_ready (rs := [10]) (by kernel_rfl) (by simp) (AllReadyH.cons (by rfl) (fun K hK => ?r5_10) (AllReadyH.nil))
                                    case r5_10 =>
                                      go_simp
                                      refine hK.out _ _ S1 (fun _ => ?_)
                                      clear hK K
                                      refine wpAnyH_ready (rs := [11]) (by kernel_rfl) (by simp) (AllReadyH.cons (by rfl) (fun K hK => ?_) AllReadyH.nil)
                                      refine step_append_lies _ (by rfl) _ _ _ (by rfl) B 64 ii0 (.agg #[.int .i64 0, .int .i64 0, .int .i64 0]) 3 24 Tryz.underlying46 hii hiz0 hiz1 hiz2 (by rfl) (by decide) _ f.code.length (insCells f.code) (by rfl) ((show w6.drew.ownsRow B 64 3 _ f.code.length (insCells f.code) from HC4.out).alloc _) ⟨w6.heap.size, 0, none⟩ 1 1 [.int .i64 op, .int .i64 x1, .int .i64 0] (by simp [Act.eval]) (by rfl) (World.news_of_block (cs := #[.int .i64 op, .int .i64 x1, .int .i64 0]) (new_heap w6.drew _)) (by intro u hu; simp at hu; rcases hu with rfl | rfl | rfl <;> rfl) (by decide) (by unfold maxLen; omega) (by omega) (by simp; omega) _ rfl ?_
                                      intro g cap w7 hown7 hgrow7 hat7 hlt7
                                      have Q7 := Lib.hid ((Q.out.grown hgb (by nofun)).grown hgrow7 (fun q hq => by have := (owns_lt HC4.out q hq).1; omega))
                                      have S7 := Lib.hid ((S.out.grown hgb (by nofun)).ins ⟨op, x1, 0⟩ rfl hk0' rfl hown7 (by rw [hfv]; exact hgrow7) (by rw [hfv]; exact hat7))
                                      have C7 := Lib.hid (cells_grown (cells_grown C.out (by omega) hgb (by nofun)) (by simp; omega) hgrow7 (fun q hq => by have := (owns_lt HC4.out q hq).1; omega))
                                      have hz7 : B ≤ w7.heap.size := (by have := hgrow7.size; simp at this; omega)
                                      have hF7 := (hgrow7.block fb (by simp; omega) (fun e => hcapart _ e.symm rfl)).trans (hga.block fb hfb (by nofun))
                                      have y7 : w7.cell? ⟨fb, k0 * 4 + 3, none⟩ = some (.slice ca f.code.length cc) := (World.cell?_of_block (a := ⟨fb, k0 * 4 + 3, none⟩) hF7).trans y0
                                      have fp7 : w7.frozen? ⟨fb, k0 * 4 + 3, none⟩ = false := (by obtain ⟨cur, hcur⟩ := owns_type Hff.out fb rfl; exact Lib.frozen_of_heap (hF7.trans hcur) _)
                                      have S9 := S1.grown hgrow7 (fun e => by have := (owns_lt HC4.out pb e).1; omega) (fun e => hxapart e)
                                      refine hK.out _ _ S9 (fun _ => ?_)
                                      clear hK K hown7 hgrow7 hat7 hF7
                                      refine held_take 12 151 (.pointer (some ⟨fb, k0 * 4, none⟩)) rfl rfl (by kernel_rfl) (by kernel_rfl) (by kernel_rfl) (fun _ _ _ h => h) (Or.inl ⟨by rfl, fun w9 hSw => ?y12⟩) S9 ?_
                                      case y12 => obtain ⟨s0, s1, s2, s3, s4, s5⟩ := hSw; go_simp; (intro h9; omega)
                                      simp only [Act.put, List.setIfInBounds_toArray, List.set_cons_zero, List.set_cons_succ]
                                      refine held_take 13 152 (.pointer (some ⟨fb, k0 * 4 + 3, none⟩)) rfl rfl (by kernel_rfl) (by kernel_rfl) (by kernel_rfl) (fun _ _ _ h => h) (Or.inl ⟨by rfl, fun w9 hSw => ?y13⟩) S9 ?_
                                      case y13 => obtain ⟨s0, s1, s2, s3, s4, s5⟩ := hSw; go_simp
                                      simp only [Act.put, List.setIfInBounds_toArray, List.set_cons_zero, List.set_cons_succ]
                                      refine wpAnyH_ready (rs := [14]) (by kernel_rfl) (by simp) (AllReadyH.cons (by rfl) (fun K hK => ?_) AllReadyH.nil)
                                      go_simp
                                      refine hK.out _ _ (S9.grown (grown_set _ _ _ _) (fun e => by have := Option.some.inj e; omega) (fun e => hxfb (Option.some.inj e).symm)) (fun _ => ?_)
                                      clear hK K
                                      refine wpAnyH_done (by kernel_rfl) ?_ _
                                      go_wp2_with fail
                                      go_roundw
                                      case rel => exact ⟨k + 1, _, _, fs0 ++ [(⟨f.c, f.l, f.d, .slice (some ⟨g, 0, none⟩) (f.code.length + 1) cap, f.code ++ [⟨op, x1, 0⟩]⟩ : FunD)], ts, main, by omega, by go_num, Lib.hid (Q7.out.grown (grown_set _ _ _ _) (fun z hz => by cases hz; omega)), S7, Lib.hid (cells_grown C7.out (by omega) (grown_set _ _ _ _) (fun z hz => by cases hz; omega)), Lib.hid (HR'.out _), by simp; omega, by omega, fun y hy => by rcases List.mem_append.1 hy with hy | hy; exact Nat.le_succ_of_le (hcl'.out y (List.mem_append_left _ hy)); (obtain rfl : y = _ := by simpa using hy); (simp; omega), by simp; omega⟩
                                      case measure => simp [intOf]; omega
                                  case r4_10 =>
                                    go_simp
                                    refine hK.out _ _ S1 (fun _ => ?_)
                                    clear hK K
                                    refine wpAnyH_ready (rs := [8]) (by kernel_rfl) (by simp) (AllReadyH.cons (by rfl) (fun K hK => ?r6_8) (AllReadyH.nil))
                                    case r6_8 =>
                                      go_simp
                                      refine hK.out _ _ S1 (fun _ => ?_)
                                      clear hK K
                                      refine wpAnyH_ready (rs := [11]) (by kernel_rfl) (by simp) (AllReadyH.cons (by rfl) (fun K hK => ?_) AllReadyH.nil)
                                      refine step_append_lies _ (by rfl) _ _ _ (by rfl) B 64 ii0 (.agg #[.int .i64 0, .int .i64 0, .int .i64 0]) 3 24 Tryz.underlying46 hii hiz0 hiz1 hiz2 (by rfl) (by decide) _ f.code.length (insCells f.code) (by rfl) ((show w6.drew.ownsRow B 64 3 _ f.code.length (insCells f.code) from HC4.out).alloc _) ⟨w6.heap.size, 0, none⟩ 1 1 [.int .i64 op, .int .i64 x1, .int .i64 0] (by simp [Act.eval]) (by rfl) (World.news_of_block (cs := #[.int .i64 op, .int .i64 x1, .int .i64 0]) (new_heap w6.drew _)) (by intro u hu; simp at hu; rcases hu with rfl | rfl | rfl <;> rfl) (by decide) (by unfold maxLen; omega) (by omega) (by simp; omega) _ rfl ?_
                                      intro g cap w7 hown7 hgrow7 hat7 hlt7
                                      have Q7 := Lib.hid ((Q.out.grown hgb (by nofun)).grown hgrow7 (fun q hq => by have := (owns_lt HC4.out q hq).1; omega))
                                      have S7 := Lib.hid ((S.out.grown hgb (by nofun)).ins ⟨op, x1, 0⟩ rfl hk0' rfl hown7 (by rw [hfv]; exact hgrow7) (by rw [hfv]; exact hat7))
                                      have C7 := Lib.hid (cells_grown (cells_grown C.out (by omega) hgb (by nofun)) (by simp; omega) hgrow7 (fun q hq => by have := (owns_lt HC4.out q hq).1; omega))
                                      have hz7 : B ≤ w7.heap.size := (by have := hgrow7.size; simp at this; omega)
                                      have hF7 := (hgrow7.block fb (by simp; omega) (fun e => hcapart _ e.symm rfl)).trans (hga.block fb hfb (by nofun))
                                      have y7 : w7.cell? ⟨fb, k0 * 4 + 3, none⟩ = some (.slice ca f.code.length cc) := (World.cell?_of_block (a := ⟨fb, k0 * 4 + 3, none⟩) hF7).trans y0
                                      have fp7 : w7.frozen? ⟨fb, k0 * 4 + 3, none⟩ = false := (by obtain ⟨cur, hcur⟩ := owns_type Hff.out fb rfl; exact Lib.frozen_of_heap (hF7.trans hcur) _)
                                      have S9 := S1.grown hgrow7 (fun e => by have := (owns_lt HC4.out pb e).1; omega) (fun e => hxapart e)
                                      refine hK.out _ _ S9 (fun _ => ?_)
                                      clear hK K hown7 hgrow7 hat7 hF7
                                      refine held_take 12 151 (.pointer (some ⟨fb, k0 * 4, none⟩)) rfl rfl (by kernel_rfl) (by kernel_rfl) (by kernel_rfl) (fun _ _ _ h => h) (Or.inl ⟨by rfl, fun w9 hSw => ?y12⟩) S9 ?_
                                      case y12 => obtain ⟨s0, s1, s2, s3, s4, s5⟩ := hSw; go_simp; (intro h9; omega)
                                      simp only [Act.put, List.setIfInBounds_toArray, List.set_cons_zero, List.set_cons_succ]
                                      refine held_take 13 152 (.pointer (some ⟨fb, k0 * 4 + 3, none⟩)) rfl rfl (by kernel_rfl) (by kernel_rfl) (by kernel_rfl) (fun _ _ _ h => h) (Or.inl ⟨by rfl, fun w9 hSw => ?y13⟩) S9 ?_
                                      case y13 => obtain ⟨s0, s1, s2, s3, s4, s5⟩ := hSw; go_simp
                                      simp only [Act.put, List.setIfInBounds_toArray, List.set_cons_zero, List.set_cons_succ]
                                      refine wpAnyH_ready (rs := [14]) (by kernel_rfl) (by simp) (AllReadyH.cons (by rfl) (fun K hK => ?_) AllReadyH.nil)
                                      go_simp
                                      refine hK.out _ _ (S9.grown (grown_set _ _ _ _) (fun e => by have := Option.some.inj e; omega) (fun e => hxfb (Option.some.inj e).symm)) (fun _ => ?_)
                                      clear hK K
                                      refine wpAnyH_done (by kernel_rfl) ?_ _
                                      go_wp2_with fail
                                      go_roundw
                                      case rel => exact ⟨k + 1, _, _, fs0 ++ [(⟨f.c, f.l, f.d, .slice (some ⟨g, 0, none⟩) (f.code.length + 1) cap, f.code ++ [⟨op, x1, 0⟩]⟩ : FunD)], ts, main, by omega, by go_num, Lib.hid (Q7.out.grown (grown_set _ _ _ _) (fun z hz => by cases hz; omega)), S7, Lib.hid (cells_grown C7.out (by omega) (grown_set _ _ _ _) (fun z hz => by cases hz; omega)), Lib.hid (HR'.out _), by simp; omega, by omega, fun y hy => by rcases List.mem_append.1 hy with hy | hy; exact Nat.le_succ_of_le (hcl'.out y (List.mem_append_left _ hy)); (obtain rfl : y = _ := by simpa using hy); (simp; omega), by simp; omega⟩
                                      case measure => simp [intOf]; omega
                          | [x1, x2], hnl, hnp, hlc, hcells, d0, hKD => as_aux_lemma =>
                            have d0 : w4.cell? ⟨b, off + 0, none⟩ = some (.int .i64 x1) := d0
                            have d1 : w4.cell? ⟨b, off + 1, none⟩ = some (.int .i64 x2) := hcells 1 (by simp)
                            clear hcells
                            obtain ⟨op, hop⟩ : ∃ op, opU a.data.toList = op := ⟨_, rfl⟩
                            by_cases hop0 : op = 0
                            · subst hop0
                              have HO := Lib.hid (rop_any a w4)
                              have HN : Hid (readT s.data.toList = none) := foldT_none HRX.out (by rw [hKD, hop, if_pos rfl]; rfl)
                              rw [hop] at HO
                              clear HRX hKD
                              go_wp2_with fail
                              refine HO.out.mono ?_
                              clear HO
                              rintro e w5 ⟨rfl, hb5⟩
                              have hgr := grown_below hb5
                              have Q' := Lib.hid (Q.out.grown hgr (by nofun))
                              have S' := Lib.hid (S.out.grown hgr (by nofun))
                              have C' := Lib.hid (cells_grown C.out (by omega) hgr (by nofun))
                              have hle' := hgr.size
                              clear Q S C hgr
                              have Q := Q'
                              have S := S'
                              have C := C'
                              clear Q' S' C'
                              obtain ⟨z0, z1, z2⟩ := ins_cells Q.out.rs
                              obtain ⟨p0, p1, p2⟩ := ins_cells Q.out.pr
                              have fz0 : (w5).frozen? ⟨w.heap.size, 0, none⟩ = false := Lib.frozen_of_heap Q.out.rs 0
                              have fz1 : (w5).frozen? ⟨w.heap.size, 1, none⟩ = false := Lib.frozen_of_heap Q.out.rs 1
                              have fz2 : (w5).frozen? ⟨w.heap.size, 2, none⟩ = false := Lib.frozen_of_heap Q.out.rs 2
                              have HD := Lib.hid (Q.out.fail)
                              clear Q S
                              go_wp2_with fail
                              refine bodyPost_ret (v := .tuple #[.agg #[.slice none 0 0, .slice none 0 0, .int .i64 0], .int .i64 3]) ?_ rfl ⟨_, _, ⟨[], [], 0⟩, 3, rfl, HD.out.2, isProg_zero _, par_bad HN.out⟩
                              rw [results_cell_tmp (p := 2) (u := 3) (ty := 25) rfl]
                              simp [asAddr, run_loadVar_row _ _ _ _ _ _ _ HD.out.1 Tryz.underlying25 rfl prog_info, Result.andThen]
                            · have fo : (op == 0) = false := beq_eq_false_iff_ne.2 hop0
                              rw [hop, if_neg hop0] at hKD
                              have HO := Lib.hid (rop_any a w4)
                              rw [hop] at HO
                              go_wp2_with fail
                              refine HO.out.mono ?_
                              clear HO
                              rintro e w5 ⟨rfl, hb5⟩
                              have hgr := grown_below hb5
                              have Q' := Lib.hid (Q.out.grown hgr (by nofun))
                              have S' := Lib.hid (S.out.grown hgr (by nofun))
                              have C' := Lib.hid (cells_grown C.out (by omega) hgr (by nofun))
                              have hle' := hgr.size
                              clear Q S C hgr
                              have Q := Q'
                              have S := S'
                              have C := C'
                              clear Q' S' C'
                              have dc5 := fun (i : Nat) (v : Value) (h : w4.cell? ⟨b, off + i, none⟩ = some v) => (hb5.cell (p := ⟨b, off + i, none⟩) hlt).trans h
                              by_cases hf0 : fs.length = 0
                              · obtain rfl : fs = [] := List.length_eq_zero_iff.1 hf0
                                have HN : Hid (readT s.data.toList = none) := foldT_none HRX.out (by rw [hKD]; exact step_ins_none _ _ _ rfl)
                                have Q0 : Hid (RSt w w5 pb (.slice fa 0 fc) (.slice ta ts.length tc) main) := Q
                                have S0 : Hid (PSt w5 B (.slice fa 0 fc) (.slice ta ts.length tc) [] ts) := S
                                clear HRX hKD hf0 Q S
                                have Q := Q0
                                have S := S0
                                clear Q0 S0
                                obtain ⟨z0, z1, z2⟩ := ins_cells Q.out.rs
                                obtain ⟨p0, p1, p2⟩ := ins_cells Q.out.pr
                                have fz0 : (w5).frozen? ⟨w.heap.size, 0, none⟩ = false := Lib.frozen_of_heap Q.out.rs 0
                                have fz1 : (w5).frozen? ⟨w.heap.size, 1, none⟩ = false := Lib.frozen_of_heap Q.out.rs 1
                                have fz2 : (w5).frozen? ⟨w.heap.size, 2, none⟩ = false := Lib.frozen_of_heap Q.out.rs 2
                                have HD := Lib.hid (Q.out.fail)
                                clear Q S
                                go_wp2_with fail
                                refine bodyPost_ret (v := .tuple #[.agg #[.slice none 0 0, .slice none 0 0, .int .i64 0], .int .i64 3]) ?_ rfl ⟨_, _, ⟨[], [], 0⟩, 3, rfl, HD.out.2, isProg_zero _, par_bad HN.out⟩
                                rw [results_cell_tmp (p := 2) (u := 3) (ty := 25) rfl]
                                simp [asAddr, run_loadVar_row _ _ _ _ _ _ _ HD.out.1 Tryz.underlying25 rfl prog_info, Result.andThen]
                              · have hfp : 0 < fs.length := by omega
                                have ffb : ((fs.length : Int) == 0) = false := beq_eq_false_iff_ne.2 (by omega)
                                have HOp := Lib.hid (operands_any op w5)
                                obtain ⟨q0, q1, q2⟩ := ins_cells Q.out.pr
                                by_cases hlen : (2 : Int) = opnds op
                                rotate_left
                                · have fne : ((2 : Int) != opnds op) = true := bne_of (beq_eq_false_iff_ne.2 hlen)
                                  have HN : Hid (readT s.data.toList = none) := foldT_none HRX.out (by rw [hKD]; unfold insU'; simp only; rw [if_neg (by simpa using hlen)]; rfl)
                                  clear HRX hKD
                                  obtain ⟨z0, z1, z2⟩ := ins_cells Q.out.rs
                                  obtain ⟨p0, p1, p2⟩ := ins_cells Q.out.pr
                                  have fz0 : (w5).frozen? ⟨w.heap.size, 0, none⟩ = false := Lib.frozen_of_heap Q.out.rs 0
                                  have fz1 : (w5).frozen? ⟨w.heap.size, 1, none⟩ = false := Lib.frozen_of_heap Q.out.rs 1
                                  have fz2 : (w5).frozen? ⟨w.heap.size, 2, none⟩ = false := Lib.frozen_of_heap Q.out.rs 2
                                  have HD := Lib.hid (Q.out.fail)
                                  clear Q S
                                  go_wp2_with (go_at_call 38; refine HOp.out.mono ?_; rintro e w6 ⟨rfl, rfl⟩)
                                  refine bodyPost_ret (v := .tuple #[.agg #[.slice none 0 0, .slice none 0 0, .int .i64 0], .int .i64 3]) ?_ rfl ⟨_, _, ⟨[], [], 0⟩, 3, rfl, HD.out.2, isProg_zero _, par_bad HN.out⟩
                                  rw [results_cell_tmp (p := 2) (u := 3) (ty := 25) rfl]
                                  simp [asAddr, run_loadVar_row _ _ _ _ _ _ _ HD.out.1 Tryz.underlying25 rfl prog_info, Result.andThen]
                                · rw [← hlen] at HOp
                                  have Hlen := Lib.hid hlen
                                  clear hlen
                                  have hlp' : lineP false (dat x) = .ins ⟨op, x1, x2⟩ := hKD.trans (by unfold insU'; simp only; rw [if_pos (by simpa using Hlen.out)]; rfl)
                                  obtain ⟨fs0, f, rfl⟩ : ∃ fs0 f, fs = fs0 ++ [f] := by
                                    rcases List.eq_nil_or_concat fs with h | ⟨a, b, h⟩
                                    · exact absurd (by rw [h]; rfl) hf0
                                    · exact ⟨a, b, by rw [h, List.concat_eq_append]⟩
                                  obtain ⟨k0, hk0'⟩ : ∃ k0, fs0.length = k0 := ⟨_, rfl⟩
                                  have hfl1 : (fs0 ++ [f]).length = k0 + 1 := by simp [hk0']
                                  rw [hfl1] at hfl hfp hf0 Q S q0 ffb
                                  have HR' : Hid (∀ cv, readT s.data.toList = foldT (decide (k + 1 = 0)) (strip ⟨fs0 ++ [⟨f.c, f.l, f.d, cv, f.code ++ [⟨op, x1, x2⟩]⟩], ts, main⟩) ((ps.drop (k + 1)).map dat)) := fun cv => by
                                    rw [hk1]; exact foldT_some HRX.out (by rw [hlp']; simp [stepT, strip, stripF])
                                  have hwr : IntKind.i64.wrap (((k0 + 1 : Nat) : Int) - 1) = (k0 : Int) := by rw [show ((k0 + 1 : Nat) : Int) - 1 = (k0 : Int) by omega]; exact wrap_ok _ (by omega) (by omega)
                                  clear HRX hKD hlp'
                                  have u0 : (w5.alloc (.cells #[.int .i64 op, .int .i64 0, .int .i64 0] 64)).cell? ⟨b, off, none⟩ = some (.int .i64 x1) := (World.cell?_of_block (a := ⟨b, off, none⟩) ((grown_alloc w5 (.cells #[.int .i64 op, .int .i64 0, .int .i64 0] 64)).block b (by have := hb5.size; omega) (by nofun))).trans (dc5 0 _ d0)
                                  have u1 : (w5.alloc (.cells #[.int .i64 op, .int .i64 x1, .int .i64 0] 64)).cell? ⟨b, off + 1, none⟩ = some (.int .i64 x2) := (World.cell?_of_block (a := ⟨b, off + 1, none⟩) ((grown_alloc w5 (.cells #[.int .i64 op, .int .i64 x1, .int .i64 0] 64)).block b (by have := hb5.size; omega) (by nofun))).trans (dc5 1 _ d1)
                                  have hIc := new_heap w5 (.cells #[.int .i64 op, .int .i64 x1, .int .i64 x2] 64)
                                  have hg1 := grown_alloc w5 (.cells #[.int .i64 op, .int .i64 x1, .int .i64 x2] 64)
                                  have hO5 := S.out.code
                                  have hF5 := S.out.fns
                                  have Q6 := Lib.hid (Q.out.grown hg1 (by nofun))
                                  have S6 := Lib.hid (S.out.grown hg1 (by nofun))
                                  have C6 := Lib.hid (cells_grown C.out (by omega) hg1 (by nofun))
                                  have q6 : (w5.alloc (.cells #[.int .i64 op, .int .i64 x1, .int .i64 x2] 64)).cell? ⟨pb, 0, none⟩ = some (.slice fa (k0 + 1) fc) := (ins_cells Q6.out.pr).1
                                  have hI6 : (w5.alloc (.cells #[.int .i64 op, .int .i64 x1, .int .i64 x2] 64)).heap[w5.heap.size]? = some (.cells #[.int .i64 op, .int .i64 x1, .int .i64 x2] 64 (0, 0)) := hIc
                                  have hsz6 := hg1.size
                                  go_upto_region 33 with (go_at_call 38; refine HOp.out.mono ?_; rintro e w6 ⟨rfl, rfl⟩)
                                  generalize (w5.alloc (.cells #[.int .i64 op, .int .i64 x1, .int .i64 x2] 64)) = w6 at *
                                  obtain ⟨xb, hxb⟩ : ∃ xb, w5.heap.size = xb := ⟨_, rfl⟩
                                  rw [hxb] at hI6 ⊢
                                  clear Q S C
                                  have Q := Q6
                                  have S := S6
                                  have C := C6
                                  clear Q6 S6 C6
                                  have hcode := S.out.code f (by simp)
                                  obtain ⟨ca, cc, hfv⟩ := owns_slice_n hcode
                                  have hrow := isRow_owns S.out.fns
                                  rw [hfl1] at hrow
                                  obtain ⟨a', c', hv', hlc', hcell'⟩ := hrow
                                  obtain ⟨fb, foff, rfl, hfb, hfc⟩ := hcell' (by omega)
                                  have e1 := (Value.slice.inj hv').1
                                  have e2 := (Value.slice.inj hv').2.2
                                  subst e1 e2
                                  have hoff : foff = 0 := by
                                    rcases S.out.fns.2 with ⟨h, _⟩ | ⟨g, cap, cur, h, _⟩
                                    · cases h
                                    · have h2 := (Value.slice.inj h).1; simp at h2; exact h2.2
                                  subst hoff
                                  have c3 := hfc (k0 * 4 + 3) (by rw [funCells_length, hfl1]; omega)
                                  rw [(funCells_at (fs0 ++ [f]) k0 (by omega)).2.2.2, show (fs0 ++ [f]).getD k0 default = f by subst hk0'; simp [List.getD]] at c3
                                  rw [hfv, Nat.zero_add] at c3
                                  have hfl2 : f.code.length ≤ k := hcl'.out f (by simp)
                                  have hffb := S.out.fns
                                  have hfbl := (owns_lt hffb fb rfl).1
                                  rw [hfl1] at hffb
                                  have Hff := Lib.hid hffb
                                  have hcapart : ∀ q, (Value.slice ca f.code.length cc).ownBlock = some q → q ≠ fb := fun q hq e => by subst e; exact owns_apart hcode S.out.fns (by decide) q (by rw [hfv]; exact hq) rfl
                                  rw [hfv] at hcode
                                  have HC4 := Lib.hid hcode
                                  have hxapart : (Value.slice ca f.code.length cc).ownBlock ≠ some xb := fun e => by have h1 := owns_lt (hO5 f (by simp)) xb (by rw [hfv]; exact e); omega
                                  have hxfb : xb ≠ fb := fun e => by have h1 := owns_lt hF5 fb rfl; omega
                                  clear hfc hcell' hcode hffb
                                  have S0 : SI pb xb (.slice (some ⟨fb, 0, none⟩) (k0 + 1) fc) (.int .i64 op) (.int .i64 x1) (.int .i64 x2) w6.drew := ⟨(ins_cells Q.out.pr).1, (ins_cells hI6).1, (ins_cells hI6).2.1, (ins_cells hI6).2.2, Q.out.lt, heap_lt hI6⟩
                                  have hga := grown_alloc w6.drew (.cells #[.int .i64 op, .int .i64 x1, .int .i64 x2] 64)
                                  have hgb : w6.grownBy (w6.drew.alloc (.cells #[.int .i64 op, .int .i64 x1, .int .i64 x2] 64)) none := grown_drawn hga
                                  have S1 := S0.grown hga (by nofun) (by nofun)
                                  have y0 : w6.drew.cell? ⟨fb, k0 * 4 + 3, none⟩ = some (.slice ca f.code.length cc) := c3
                                  have y1 : (w6.alloc (.cells #[.int .i64 op, .int .i64 x1, .int .i64 x2] 64)).cell? ⟨fb, k0 * 4 + 3, none⟩ = some (.slice ca f.code.length cc) := (World.cell?_of_block (a := ⟨fb, k0 * 4 + 3, none⟩) (hga.block fb hfb (by nofun))).trans y0
                                  refine wp_region_held_drew (S := SI pb xb (.slice (some ⟨fb, 0, none⟩) (k0 + 1) fc) (.int .i64 op) (.int .i64 x1) (.int .i64 x2)) (by kernel_rfl) S0 (fun hHeld => ?_)
                                  refine held_take 0 139 (.pointer (some ⟨pb, 0, none⟩)) rfl rfl (by kernel_rfl) (by kernel_rfl) (by kernel_rfl) (fun _ _ _ h => h) (Or.inl ⟨by rfl, fun w9 hSw => ?y0⟩) S0 ?_
                                  case y0 => obtain ⟨s0, s1, s2, s3, s4, s5⟩ := hSw; go_simp
                                  simp only [Act.put, List.setIfInBounds_toArray, List.set_cons_zero, List.set_cons_succ]
                                  refine held_take 1 140 (.slice (some ⟨fb, 0, none⟩) (k0 + 1) fc) rfl rfl (by kernel_rfl) (by kernel_rfl) (by kernel_rfl) (fun _ _ _ h => h) (Or.inl ⟨by rfl, fun w9 hSw => ?y1⟩) S0 ?_
                                  case y1 => obtain ⟨s0, s1, s2, s3, s4, s5⟩ := hSw; go_simp
                                  simp only [Act.put, List.setIfInBounds_toArray, List.set_cons_zero, List.set_cons_succ]
                                  refine held_take 2 141 (.int .i64 k0) rfl rfl (by kernel_rfl) (by kernel_rfl) (by kernel_rfl) (fun _ _ _ h => h) (Or.inl ⟨by rfl, fun w9 hSw => ?y2⟩) S0 ?_
                                  case y2 => obtain ⟨s0, s1, s2, s3, s4, s5⟩ := hSw; go_simp
                                  simp only [Act.put, List.setIfInBounds_toArray, List.set_cons_zero, List.set_cons_succ]
                                  refine held_take 3 142 (.pointer (some ⟨pb, 0, none⟩)) rfl rfl (by kernel_rfl) (by kernel_rfl) (by kernel_rfl) (fun _ _ _ h => h) (Or.inl ⟨by rfl, fun w9 hSw => ?y3⟩) S0 ?_
                                  case y3 => obtain ⟨s0, s1, s2, s3, s4, s5⟩ := hSw; go_simp
                                  simp only [Act.put, List.setIfInBounds_toArray, List.set_cons_zero, List.set_cons_succ]
                                  refine held_take 4 143 (.slice (some ⟨fb, 0, none⟩) (k0 + 1) fc) rfl rfl (by kernel_rfl) (by kernel_rfl) (by kernel_rfl) (fun _ _ _ h => h) (Or.inl ⟨by rfl, fun w9 hSw => ?y4⟩) S0 ?_
                                  case y4 => obtain ⟨s0, s1, s2, s3, s4, s5⟩ := hSw; go_simp
                                  simp only [Act.put, List.setIfInBounds_toArray, List.set_cons_zero, List.set_cons_succ]
                                  refine held_take 5 144 (.int .i64 k0) rfl rfl (by kernel_rfl) (by kernel_rfl) (by kernel_rfl) (fun _ _ _ h => h) (Or.inl ⟨by rfl, fun w9 hSw => ?y5⟩) S0 ?_
                                  case y5 => obtain ⟨s0, s1, s2, s3, s4, s5⟩ := hSw; go_simp
                                  simp only [Act.put, List.setIfInBounds_toArray, List.set_cons_zero, List.set_cons_succ]
                                  refine held_take 6 145 (.pointer (some ⟨fb, k0 * 4, none⟩)) rfl rfl (by kernel_rfl) (by kernel_rfl) (by kernel_rfl) (fun _ _ _ h => h) (Or.inl ⟨by rfl, fun w9 hSw => ?y6⟩) S0 ?_
                                  case y6 => obtain ⟨s0, s1, s2, s3, s4, s5⟩ := hSw; go_simp; (intro h9; omega)
                                  simp only [Act.put, List.setIfInBounds_toArray, List.set_cons_zero, List.set_cons_succ]
                                  refine held_take 7 146 (.pointer (some ⟨fb, k0 * 4 + 3, none⟩)) rfl rfl (by kernel_rfl) (by kernel_rfl) (by kernel_rfl) (fun _ _ _ h => h) (Or.inl ⟨by rfl, fun w9 hSw => ?y7⟩) S0 ?_
                                  case y7 => obtain ⟨s0, s1, s2, s3, s4, s5⟩ := hSw; go_simp
                                  simp only [Act.put, List.setIfInBounds_toArray, List.set_cons_zero, List.set_cons_succ]
                                  refine held_take 9 148 (.agg #[.int .i64 op, .int .i64 x1, .int .i64 x2]) rfl rfl (by kernel_rfl) (by kernel_rfl) (by kernel_rfl) (fun _ _ _ h => h) (Or.inl ⟨by rfl, fun w9 hSw => ?y9⟩) S0 ?_
                                  case y9 => obtain ⟨s0, s1, s2, s3, s4, s5⟩ := hSw; go_simp
                                  simp only [Act.put, List.setIfInBounds_toArray, List.set_cons_zero, List.set_cons_succ]
                                  refine wpAnyH_ready (rs := [8, 10]) (by kernel_rfl) (by simp) (AllReadyH.cons (by rfl) (fun K hK => ?r7_8) (AllReadyH.cons (by rfl) (fun K hK => ?r7_10) (AllReadyH.nil)))
                                  case r7_8 =>
                                    go_simp
                                    refine hK.out _ _ S0 (fun _ => ?_)
                                    clear hK K
                                    refine wpAnyH_ready (rs := [10]) (by kernel_rfl) (by simp) (AllReadyH.cons (by rfl) (fun K hK => ?r8_10) (AllReadyH.nil))
                                    case r8_10 =>
                                      go_simp
                                      refine hK.out _ _ S1 (fun _ => ?_)
                                      clear hK K
                                      refine wpAnyH_ready (rs := [11]) (by kernel_rfl) (by simp) (AllReadyH.cons (by rfl) (fun K hK => ?_) AllReadyH.nil)
                                      refine step_append_lies _ (by rfl) _ _ _ (by rfl) B 64 ii0 (.agg #[.int .i64 0, .int .i64 0, .int .i64 0]) 3 24 Tryz.underlying46 hii hiz0 hiz1 hiz2 (by rfl) (by decide) _ f.code.length (insCells f.code) (by rfl) ((show w6.drew.ownsRow B 64 3 _ f.code.length (insCells f.code) from HC4.out).alloc _) ⟨w6.heap.size, 0, none⟩ 1 1 [.int .i64 op, .int .i64 x1, .int .i64 x2] (by simp [Act.eval]) (by rfl) (World.news_of_block (cs := #[.int .i64 op, .int .i64 x1, .int .i64 x2]) (new_heap w6.drew _)) (by intro u hu; simp at hu; rcases hu with rfl | rfl | rfl <;> rfl) (by decide) (by unfold maxLen; omega) (by omega) (by simp; omega) _ rfl ?_
                                      intro g cap w7 hown7 hgrow7 hat7 hlt7
                                      have Q7 := Lib.hid ((Q.out.grown hgb (by nofun)).grown hgrow7 (fun q hq => by have := (owns_lt HC4.out q hq).1; omega))
                                      have S7 := Lib.hid ((S.out.grown hgb (by nofun)).ins ⟨op, x1, x2⟩ rfl hk0' rfl hown7 (by rw [hfv]; exact hgrow7) (by rw [hfv]; exact hat7))
                                      have C7 := Lib.hid (cells_grown (cells_grown C.out (by omega) hgb (by nofun)) (by simp; omega) hgrow7 (fun q hq => by have := (owns_lt HC4.out q hq).1; omega))
                                      have hz7 : B ≤ w7.heap.size := (by have := hgrow7.size; simp at this; omega)
                                      have hF7 := (hgrow7.block fb (by simp; omega) (fun e => hcapart _ e.symm rfl)).trans (hga.block fb hfb (by nofun))
                                      have y7 : w7.cell? ⟨fb, k0 * 4 + 3, none⟩ = some (.slice ca f.code.length cc) := (World.cell?_of_block (a := ⟨fb, k0 * 4 + 3, none⟩) hF7).trans y0
                                      have fp7 : w7.frozen? ⟨fb, k0 * 4 + 3, none⟩ = false := (by obtain ⟨cur, hcur⟩ := owns_type Hff.out fb rfl; exact Lib.frozen_of_heap (hF7.trans hcur) _)
                                      have S9 := S1.grown hgrow7 (fun e => by have := (owns_lt HC4.out pb e).1; omega) (fun e => hxapart e)
                                      refine hK.out _ _ S9 (fun _ => ?_)
                                      clear hK K hown7 hgrow7 hat7 hF7
                                      refine held_take 12 151 (.pointer (some ⟨fb, k0 * 4, none⟩)) rfl rfl (by kernel_rfl) (by kernel_rfl) (by kernel_rfl) (fun _ _ _ h => h) (Or.inl ⟨by rfl, fun w9 hSw => ?y12⟩) S9 ?_
                                      case y12 => obtain ⟨s0, s1, s2, s3, s4, s5⟩ := hSw; go_simp; (intro h9; omega)
                                      simp only [Act.put, List.setIfInBounds_toArray, List.set_cons_zero, List.set_cons_succ]
                                      refine held_take 13 152 (.pointer (some ⟨fb, k0 * 4 + 3, none⟩)) rfl rfl (by kernel_rfl) (by kernel_rfl) (by kernel_rfl) (fun _ _ _ h => h) (Or.inl ⟨by rfl, fun w9 hSw => ?y13⟩) S9 ?_
                                      case y13 => obtain ⟨s0, s1, s2, s3, s4, s5⟩ := hSw; go_simp
                                      simp only [Act.put, List.setIfInBounds_toArray, List.set_cons_zero, List.set_cons_succ]
                                      refine wpAnyH_ready (rs := [14]) (by kernel_rfl) (by simp) (AllReadyH.cons (by rfl) (fun K hK => ?_) AllReadyH.nil)
                                      go_simp
                                      refine hK.out _ _ (S9.grown (grown_set _ _ _ _) (fun e => by have := Option.some.inj e; omega) (fun e => hxfb (Option.some.inj e).symm)) (fun _ => ?_)
                                      clear hK K
                                      refine wpAnyH_done (by kernel_rfl) ?_ _
                                      go_wp2_with fail
                                      go_roundw
                                      case rel => exact ⟨k + 1, _, _, fs0 ++ [(⟨f.c, f.l, f.d, .slice (some ⟨g, 0, none⟩) (f.code.length + 1) cap, f.code ++ [⟨op, x1, x2⟩]⟩ : FunD)], ts, main, by omega, by go_num, Lib.hid (Q7.out.grown (grown_set _ _ _ _) (fun z hz => by cases hz; omega)), S7, Lib.hid (cells_grown C7.out (by omega) (grown_set _ _ _ _) (fun z hz => by cases hz; omega)), Lib.hid (HR'.out _), by simp; omega, by omega, fun y hy => by rcases List.mem_append.1 hy with hy | hy; exact Nat.le_succ_of_le (hcl'.out y (List.mem_append_left _ hy)); (obtain rfl : y = _ := by simpa using hy); (simp; omega), by simp; omega⟩
                                      case measure => simp [intOf]; omega
                                  case r7_10 =>
                                    go_simp
                                    refine hK.out _ _ S1 (fun _ => ?_)
                                    clear hK K
                                    refine wpAnyH_ready (rs := [8]) (by kernel_rfl) (by simp) (AllReadyH.cons (by rfl) (fun K hK => ?r9_8) (AllReadyH.nil))
                                    case r9_8 =>
                                      go_simp
                                      refine hK.out _ _ S1 (fun _ => ?_)
                                      clear hK K
                                      refine wpAnyH_ready (rs := [11]) (by kernel_rfl) (by simp) (AllReadyH.cons (by rfl) (fun K hK => ?_) AllReadyH.nil)
                                      refine step_append_lies _ (by rfl) _ _ _ (by rfl) B 64 ii0 (.agg #[.int .i64 0, .int .i64 0, .int .i64 0]) 3 24 Tryz.underlying46 hii hiz0 hiz1 hiz2 (by rfl) (by decide) _ f.code.length (insCells f.code) (by rfl) ((show w6.drew.ownsRow B 64 3 _ f.code.length (insCells f.code) from HC4.out).alloc _) ⟨w6.heap.size, 0, none⟩ 1 1 [.int .i64 op, .int .i64 x1, .int .i64 x2] (by simp [Act.eval]) (by rfl) (World.news_of_block (cs := #[.int .i64 op, .int .i64 x1, .int .i64 x2]) (new_heap w6.drew _)) (by intro u hu; simp at hu; rcases hu with rfl | rfl | rfl <;> rfl) (by decide) (by unfold maxLen; omega) (by omega) (by simp; omega) _ rfl ?_
                                      intro g cap w7 hown7 hgrow7 hat7 hlt7
                                      have Q7 := Lib.hid ((Q.out.grown hgb (by nofun)).grown hgrow7 (fun q hq => by have := (owns_lt HC4.out q hq).1; omega))
                                      have S7 := Lib.hid ((S.out.grown hgb (by nofun)).ins ⟨op, x1, x2⟩ rfl hk0' rfl hown7 (by rw [hfv]; exact hgrow7) (by rw [hfv]; exact hat7))
                                      have C7 := Lib.hid (cells_grown (cells_grown C.out (by omega) hgb (by nofun)) (by simp; omega) hgrow7 (fun q hq => by have := (owns_lt HC4.out q hq).1; omega))
                                      have hz7 : B ≤ w7.heap.size := (by have := hgrow7.size; simp at this; omega)
                                      have hF7 := (hgrow7.block fb (by simp; omega) (fun e => hcapart _ e.symm rfl)).trans (hga.block fb hfb (by nofun))
                                      have y7 : w7.cell? ⟨fb, k0 * 4 + 3, none⟩ = some (.slice ca f.code.length cc) := (World.cell?_of_block (a := ⟨fb, k0 * 4 + 3, none⟩) hF7).trans y0
                                      have fp7 : w7.frozen? ⟨fb, k0 * 4 + 3, none⟩ = false := (by obtain ⟨cur, hcur⟩ := owns_type Hff.out fb rfl; exact Lib.frozen_of_heap (hF7.trans hcur) _)
                                      have S9 := S1.grown hgrow7 (fun e => by have := (owns_lt HC4.out pb e).1; omega) (fun e => hxapart e)
                                      refine hK.out _ _ S9 (fun _ => ?_)
                                      clear hK K hown7 hgrow7 hat7 hF7
                                      refine held_take 12 151 (.pointer (some ⟨fb, k0 * 4, none⟩)) rfl rfl (by kernel_rfl) (by kernel_rfl) (by kernel_rfl) (fun _ _ _ h => h) (Or.inl ⟨by rfl, fun w9 hSw => ?y12⟩) S9 ?_
                                      case y12 => obtain ⟨s0, s1, s2, s3, s4, s5⟩ := hSw; go_simp; (intro h9; omega)
                                      simp only [Act.put, List.setIfInBounds_toArray, List.set_cons_zero, List.set_cons_succ]
                                      refine held_take 13 152 (.pointer (some ⟨fb, k0 * 4 + 3, none⟩)) rfl rfl (by kernel_rfl) (by kernel_rfl) (by kernel_rfl) (fun _ _ _ h => h) (Or.inl ⟨by rfl, fun w9 hSw => ?y13⟩) S9 ?_
                                      case y13 => obtain ⟨s0, s1, s2, s3, s4, s5⟩ := hSw; go_simp
                                      simp only [Act.put, List.setIfInBounds_toArray, List.set_cons_zero, List.set_cons_succ]
                                      refine wpAnyH_ready (rs := [14]) (by kernel_rfl) (by simp) (AllReadyH.cons (by rfl) (fun K hK => ?_) AllReadyH.nil)
                                      go_simp
                                      refine hK.out _ _ (S9.grown (grown_set _ _ _ _) (fun e => by have := Option.some.inj e; omega) (fun e => hxfb (Option.some.inj e).symm)) (fun _ => ?_)
                                      clear hK K
                                      refine wpAnyH_done (by kernel_rfl) ?_ _
                                      go_wp2_with fail
                                      go_roundw
                                      case rel => exact ⟨k + 1, _, _, fs0 ++ [(⟨f.c, f.l, f.d, .slice (some ⟨g, 0, none⟩) (f.code.length + 1) cap, f.code ++ [⟨op, x1, x2⟩]⟩ : FunD)], ts, main, by omega, by go_num, Lib.hid (Q7.out.grown (grown_set _ _ _ _) (fun z hz => by cases hz; omega)), S7, Lib.hid (cells_grown C7.out (by omega) (grown_set _ _ _ _) (fun z hz => by cases hz; omega)), Lib.hid (HR'.out _), by simp; omega, by omega, fun y hy => by rcases List.mem_append.1 hy with hy | hy; exact Nat.le_succ_of_le (hcl'.out y (List.mem_append_left _ hy)); (obtain rfl : y = _ := by simpa using hy); (simp; omega), by simp; omega⟩
                                      case measure => simp [intOf]; omega
                          | x1 :: x2 :: x3 :: nr, hnl, hnp, hlc, hcells, d0, hKD => as_aux_lemma =>
                            obtain ⟨ns, hns3⟩ : ∃ ns, x1 :: x2 :: x3 :: nr = ns := ⟨_, rfl⟩
                            have hn3 : 3 ≤ ns.length := by rw [← hns3]; simp
                            rw [hns3] at hKD hnl hlc hnp ⊢
                            clear hcells d0 hns3
                            obtain ⟨op, hop⟩ : ∃ op, opU a.data.toList = op := ⟨_, rfl⟩
                            by_cases hop0 : op = 0
                            · subst hop0
                              have HO := Lib.hid (rop_any a w4)
                              have HN : Hid (readT s.data.toList = none) := foldT_none HRX.out (by rw [hKD, hop, if_pos rfl]; rfl)
                              rw [hop] at HO
                              clear HRX hKD
                              go_wp2_with fail
                              refine HO.out.mono ?_
                              clear HO
                              rintro e w5 ⟨rfl, hb5⟩
                              have hgr := grown_below hb5
                              have Q' := Lib.hid (Q.out.grown hgr (by nofun))
                              have S' := Lib.hid (S.out.grown hgr (by nofun))
                              have C' := Lib.hid (cells_grown C.out (by omega) hgr (by nofun))
                              have hle' := hgr.size
                              clear Q S C hgr
                              have Q := Q'
                              have S := S'
                              have C := C'
                              clear Q' S' C'
                              obtain ⟨z0, z1, z2⟩ := ins_cells Q.out.rs
                              obtain ⟨p0, p1, p2⟩ := ins_cells Q.out.pr
                              have fz0 : (w5).frozen? ⟨w.heap.size, 0, none⟩ = false := Lib.frozen_of_heap Q.out.rs 0
                              have fz1 : (w5).frozen? ⟨w.heap.size, 1, none⟩ = false := Lib.frozen_of_heap Q.out.rs 1
                              have fz2 : (w5).frozen? ⟨w.heap.size, 2, none⟩ = false := Lib.frozen_of_heap Q.out.rs 2
                              have HD := Lib.hid (Q.out.fail)
                              clear Q S
                              go_wp2_with fail
                              refine bodyPost_ret (v := .tuple #[.agg #[.slice none 0 0, .slice none 0 0, .int .i64 0], .int .i64 3]) ?_ rfl ⟨_, _, ⟨[], [], 0⟩, 3, rfl, HD.out.2, isProg_zero _, par_bad HN.out⟩
                              rw [results_cell_tmp (p := 2) (u := 3) (ty := 25) rfl]
                              simp [asAddr, run_loadVar_row _ _ _ _ _ _ _ HD.out.1 Tryz.underlying25 rfl prog_info, Result.andThen]
                            · have fo : (op == 0) = false := beq_eq_false_iff_ne.2 hop0
                              rw [hop, if_neg hop0] at hKD
                              have HO := Lib.hid (rop_any a w4)
                              rw [hop] at HO
                              go_wp2_with fail
                              refine HO.out.mono ?_
                              clear HO
                              rintro e w5 ⟨rfl, hb5⟩
                              have hgr := grown_below hb5
                              have Q' := Lib.hid (Q.out.grown hgr (by nofun))
                              have S' := Lib.hid (S.out.grown hgr (by nofun))
                              have C' := Lib.hid (cells_grown C.out (by omega) hgr (by nofun))
                              have hle' := hgr.size
                              clear Q S C hgr
                              have Q := Q'
                              have S := S'
                              have C := C'
                              clear Q' S' C'
                              by_cases hf0 : fs.length = 0
                              · obtain rfl : fs = [] := List.length_eq_zero_iff.1 hf0
                                have HN : Hid (readT s.data.toList = none) := foldT_none HRX.out (by rw [hKD]; exact step_ins_none _ _ _ rfl)
                                have Q0 : Hid (RSt w w5 pb (.slice fa 0 fc) (.slice ta ts.length tc) main) := Q
                                have S0 : Hid (PSt w5 B (.slice fa 0 fc) (.slice ta ts.length tc) [] ts) := S
                                clear HRX hKD hf0 Q S
                                have Q := Q0
                                have S := S0
                                clear Q0 S0
                                obtain ⟨z0, z1, z2⟩ := ins_cells Q.out.rs
                                obtain ⟨p0, p1, p2⟩ := ins_cells Q.out.pr
                                have fz0 : (w5).frozen? ⟨w.heap.size, 0, none⟩ = false := Lib.frozen_of_heap Q.out.rs 0
                                have fz1 : (w5).frozen? ⟨w.heap.size, 1, none⟩ = false := Lib.frozen_of_heap Q.out.rs 1
                                have fz2 : (w5).frozen? ⟨w.heap.size, 2, none⟩ = false := Lib.frozen_of_heap Q.out.rs 2
                                have HD := Lib.hid (Q.out.fail)
                                clear Q S
                                go_wp2_with fail
                                refine bodyPost_ret (v := .tuple #[.agg #[.slice none 0 0, .slice none 0 0, .int .i64 0], .int .i64 3]) ?_ rfl ⟨_, _, ⟨[], [], 0⟩, 3, rfl, HD.out.2, isProg_zero _, par_bad HN.out⟩
                                rw [results_cell_tmp (p := 2) (u := 3) (ty := 25) rfl]
                                simp [asAddr, run_loadVar_row _ _ _ _ _ _ _ HD.out.1 Tryz.underlying25 rfl prog_info, Result.andThen]
                              · have hfp : 0 < fs.length := by omega
                                have ffb : ((fs.length : Int) == 0) = false := beq_eq_false_iff_ne.2 (by omega)
                                have HOp := Lib.hid (operands_any op w5)
                                obtain ⟨q0, q1, q2⟩ := ins_cells Q.out.pr
                                · have hlen : ¬ ((ns.length : Nat) : Int) = opnds op := by have := opnds_two op; omega
                                  have fne : (((ns.length : Nat) : Int) != opnds op) = true := bne_of (beq_eq_false_iff_ne.2 hlen)
                                  have HN : Hid (readT s.data.toList = none) := foldT_none HRX.out (by rw [hKD]; unfold insU'; simp only; rw [if_neg (by simpa using hlen)]; rfl)
                                  clear HRX hKD
                                  obtain ⟨z0, z1, z2⟩ := ins_cells Q.out.rs
                                  obtain ⟨p0, p1, p2⟩ := ins_cells Q.out.pr
                                  have fz0 : (w5).frozen? ⟨w.heap.size, 0, none⟩ = false := Lib.frozen_of_heap Q.out.rs 0
                                  have fz1 : (w5).frozen? ⟨w.heap.size, 1, none⟩ = false := Lib.frozen_of_heap Q.out.rs 1
                                  have fz2 : (w5).frozen? ⟨w.heap.size, 2, none⟩ = false := Lib.frozen_of_heap Q.out.rs 2
                                  have HD := Lib.hid (Q.out.fail)
                                  clear Q S
                                  go_wp2_with (go_at_call 38; refine HOp.out.mono ?_; rintro e w6 ⟨rfl, rfl⟩)
                                  refine bodyPost_ret (v := .tuple #[.agg #[.slice none 0 0, .slice none 0 0, .int .i64 0], .int .i64 3]) ?_ rfl ⟨_, _, ⟨[], [], 0⟩, 3, rfl, HD.out.2, isProg_zero _, par_bad HN.out⟩
                                  rw [results_cell_tmp (p := 2) (u := 3) (ty := 25) rfl]
                                  simp [asAddr, run_loadVar_row _ _ _ _ _ _ _ HD.out.1 Tryz.underlying25 rfl prog_info, Result.andThen]
                        · as_aux_lemma =>
                          have hop : opU a.data.toList = 0 := by rw [beq_iff_eq.1 hzf]; exact opU_fun
                          have fl3 : ((ns.length : Int) == 3) = false := beq_eq_false_iff_ne.2 (fun h => hf' ⟨rfl, by omega⟩)
                          clear hA hzf hz hm' hf'
                          have HO := Lib.hid (rop_any a w4)
                          have HN : Hid (readT s.data.toList = none) := foldT_none HRX.out (by rw [hKD, hop, if_pos rfl]; rfl)
                          rw [hop] at HO
                          clear HRX hKD
                          go_wp2_with fail
                          refine HO.out.mono ?_
                          clear HO
                          rintro e w5 ⟨rfl, hb5⟩
                          have hgr := grown_below hb5
                          have Q' := Lib.hid (Q.out.grown hgr (by nofun))
                          have S' := Lib.hid (S.out.grown hgr (by nofun))
                          have C' := Lib.hid (cells_grown C.out (by omega) hgr (by nofun))
                          have hle' := hgr.size
                          clear Q S C hgr
                          have Q := Q'
                          have S := S'
                          have C := C'
                          clear Q' S' C'
                          obtain ⟨z0, z1, z2⟩ := ins_cells Q.out.rs
                          obtain ⟨p0, p1, p2⟩ := ins_cells Q.out.pr
                          have fz0 : (w5).frozen? ⟨w.heap.size, 0, none⟩ = false := Lib.frozen_of_heap Q.out.rs 0
                          have fz1 : (w5).frozen? ⟨w.heap.size, 1, none⟩ = false := Lib.frozen_of_heap Q.out.rs 1
                          have fz2 : (w5).frozen? ⟨w.heap.size, 2, none⟩ = false := Lib.frozen_of_heap Q.out.rs 2
                          have HD := Lib.hid (Q.out.fail)
                          clear Q S
                          go_wp2_with fail
                          refine bodyPost_ret (v := .tuple #[.agg #[.slice none 0 0, .slice none 0 0, .int .i64 0], .int .i64 3]) ?_ rfl ⟨_, _, ⟨[], [], 0⟩, 3, rfl, HD.out.2, isProg_zero _, par_bad HN.out⟩
                          rw [results_cell_tmp (p := 2) (u := 3) (ty := 25) rfl]
                          simp [asAddr, run_loadVar_row _ _ _ _ _ _ _ HD.out.1 Tryz.underlying25 rfl prog_info, Result.andThen]
                      · as_aux_lemma =>
                        have hop : opU a.data.toList = 0 := by rw [beq_iff_eq.1 hA]; exact opU_main
                        obtain rfl : zf = false := by rw [← hzf, beq_iff_eq.1 hA]; decide
                        have fl1 : ((ns.length : Int) == 1) = false := beq_eq_false_iff_ne.2 (fun h => hm' ⟨rfl, by omega⟩)
                        clear hA hzf hz hm' hf'
                        have HO := Lib.hid (rop_any a w4)
                        have HN : Hid (readT s.data.toList = none) := foldT_none HRX.out (by rw [hKD, hop, if_pos rfl]; rfl)
                        rw [hop] at HO
                        clear HRX hKD
                        go_wp2_with fail
                        refine HO.out.mono ?_
                        clear HO
                        rintro e w5 ⟨rfl, hb5⟩
                        have hgr := grown_below hb5
                        have Q' := Lib.hid (Q.out.grown hgr (by nofun))
                        have S' := Lib.hid (S.out.grown hgr (by nofun))
                        have C' := Lib.hid (cells_grown C.out (by omega) hgr (by nofun))
                        have hle' := hgr.size
                        clear Q S C hgr
                        have Q := Q'
                        have S := S'
                        have C := C'
                        clear Q' S' C'
                        obtain ⟨z0, z1, z2⟩ := ins_cells Q.out.rs
                        obtain ⟨p0, p1, p2⟩ := ins_cells Q.out.pr
                        have fz0 : (w5).frozen? ⟨w.heap.size, 0, none⟩ = false := Lib.frozen_of_heap Q.out.rs 0
                        have fz1 : (w5).frozen? ⟨w.heap.size, 1, none⟩ = false := Lib.frozen_of_heap Q.out.rs 1
                        have fz2 : (w5).frozen? ⟨w.heap.size, 2, none⟩ = false := Lib.frozen_of_heap Q.out.rs 2
                        have HD := Lib.hid (Q.out.fail)
                        clear Q S
                        go_wp2_with fail
                        refine bodyPost_ret (v := .tuple #[.agg #[.slice none 0 0, .slice none 0 0, .int .i64 0], .int .i64 3]) ?_ rfl ⟨_, _, ⟨[], [], 0⟩, 3, rfl, HD.out.2, isProg_zero _, par_bad HN.out⟩
                        rw [results_cell_tmp (p := 2) (u := 3) (ty := 25) rfl]
                        simp [asAddr, run_loadVar_row _ _ _ _ _ _ _ HD.out.1 Tryz.underlying25 rfl prog_info, Result.andThen]
        · as_aux_lemma =>
          obtain rfl : k = ps.length := by omega
          have HN : Hid (readT s.data.toList = some (strip ⟨fs, ts, main⟩)) := by show _ = _; rw [HRT.out, List.drop_length]; rfl
          have HPT : Hid (parT s.data.toList = chkT true (strip ⟨fs, ts, main⟩)) := parT_of _ _ true HN.out
          obtain ⟨p0, p1, p2⟩ := ins_cells Q.out.pr
          have HP := Lib.hid (S.out.prog main)
          have HV := Lib.hid (rvalid_any _ _ ⟨fs, ts, main⟩ V HP.out (by show fs.length ≤ _; omega) (by show ts.length ≤ _; omega))
          clear HRT S C
          go_wp2_with fail
          refine HV.out.mono ?_
          clear HV
          rintro e w5 ⟨rfl, hb5⟩
          have HP5 := Lib.hid (HP.out.below hb5)
          have Q5 := Lib.hid (Q.out.grown (grown_below hb5) (by nofun))
          clear Q HP hb5
          have Q := Q5
          clear Q5
          obtain ⟨z0, z1, z2⟩ := ins_cells Q.out.rs
          obtain ⟨q0, q1, q2⟩ := ins_cells Q.out.pr
          have fz0 : w5.frozen? ⟨w.heap.size, 0, none⟩ = false := Lib.frozen_of_heap Q.out.rs 0
          have fz1 : w5.frozen? ⟨w.heap.size, 1, none⟩ = false := Lib.frozen_of_heap Q.out.rs 1
          have fz2 : w5.frozen? ⟨w.heap.size, 2, none⟩ = false := Lib.frozen_of_heap Q.out.rs 2
          cases hv : validB ⟨fs, ts, main⟩
          · have HE : Hid ((zeroS, (1 : Int)) = parT s.data.toList) := by show _ = _; rw [HPT.out]; unfold chkT; rw [if_pos rfl, validS_strip, hv]; rfl
            have HD := Lib.hid (Q.out.fail)
            clear Q hv HPT HN
            go_wp2_with fail
            refine bodyPost_ret (v := .tuple #[.agg #[.slice none 0 0, .slice none 0 0, .int .i64 0], .int .i64 1]) ?_ rfl ⟨_, _, ⟨[], [], 0⟩, 1, rfl, HD.out.2, isProg_zero _, HE.out⟩
            rw [results_cell_tmp (p := 2) (u := 3) (ty := 25) rfl]
            simp [asAddr, run_loadVar_row _ _ _ _ _ _ _ HD.out.1 Tryz.underlying25 rfl prog_info, Result.andThen]
          · have HE : Hid ((strip ⟨fs, ts, main⟩, (0 : Int)) = parT s.data.toList) := by show _ = _; rw [HPT.out]; unfold chkT; rw [if_pos rfl, validS_strip, hv]; rfl
            have HD := Lib.hid (Q.out.done HP5.out)
            have HD2 := Lib.hid (Q.out.ret (.slice fa fs.length fc) (.slice ta ts.length tc) main).1
            clear Q hv HPT HN HP5
            go_wp2_with fail
            refine bodyPost_ret (v := .tuple #[.agg #[.slice fa fs.length fc, .slice ta ts.length tc, .int .i64 main], .int .i64 0]) ?_ rfl ⟨_, _, ⟨fs, ts, main⟩, 0, rfl, HD.out.1, HD.out.2, HE.out⟩
            rw [results_cell_tmp (p := 2) (u := 3) (ty := 25) rfl]
            simp [asAddr, run_loadVar_row _ _ _ _ _ _ _ HD2.out Tryz.underlying25 rfl prog_info, Result.andThen]
end Go.Proofs.YtidffjlpldalpaaGreatDoor
