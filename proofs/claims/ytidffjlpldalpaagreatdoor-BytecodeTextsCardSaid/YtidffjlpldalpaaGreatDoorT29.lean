/- The program's read: the walk. -/
import Derived.Test.YtidffjlpldalpaaGreatDoorT27
import Derived.Test.YtidffjlpldalpaaGreatDoorT20
import Derived.Test.YtidffjlpldalpaaGreatDoorT28
set_option linter.unusedVariables false
set_option linter.unusedSimpArgs false
namespace Go.Proofs.YtidffjlpldalpaaGreatDoor
open Go Go.RowKit

theorem owns_slice_n {V : World} {B : Nat} {e : TypeId} {s n : Nat} {v : Value} {xs : List Value} (h : V.ownsRow B e s v n xs) : ∃ a c, v = .slice a n c := by
  obtain ⟨_, h2⟩ := h
  rcases h2 with ⟨rfl, rfl⟩ | ⟨g, cap, cur, rfl, _⟩
  · exact ⟨_, _, rfl⟩
  · exact ⟨_, _, rfl⟩
/-- What ends a reading: the result holds the program, and the program is one. -/
theorem QSt.doneP {w V : World} {fv tv : Value} {main : Int} (h : QSt w V fv tv main) {B : Nat} {fs : List FunD} {ts : List ByteArray} (hP : PSt V B fv tv fs ts) (hB : w.heap.size + 1 < B) :
    (((V.setCell ⟨w.heap.size, 0, none⟩ fv).setCell ⟨w.heap.size, 1, none⟩ tv).setCell ⟨w.heap.size, 2, none⟩ (.int .i64 main)).heap[w.heap.size]? = some (.cells #[fv, tv, .int .i64 main] 25 (0, 0)) ∧ Below w.heap.size w (((V.setCell ⟨w.heap.size, 0, none⟩ fv).setCell ⟨w.heap.size, 1, none⟩ tv).setCell ⟨w.heap.size, 2, none⟩ (.int .i64 main)) ∧ IsProg (((V.setCell ⟨w.heap.size, 0, none⟩ fv).setCell ⟨w.heap.size, 1, none⟩ tv).setCell ⟨w.heap.size, 2, none⟩ (.int .i64 main)) fv tv ⟨fs, ts, main⟩ := by
  have hr := (h.ret fv tv main).2
  have hlt := h.lt
  exact ⟨(h.ret fv tv main).1, h.below.trans (grown_under hr (by omega) (fun z hz => by cases hz; exact Nat.le_refl _)), (hP.grown hr (fun z hz => by cases hz; omega)).prog main⟩
/-- The lines stay. -/
def LinesAt (V : World) (lb : Nat) (ps : List ByteArray) : Prop := ∀ j, j < ps.length → V.cell? ⟨lb, j, none⟩ = some (.string (ps.getD j default))
theorem cells_grown {V V' : World} {lb : Nat} {ps : List ByteArray} {r : Option Nat} (h : LinesAt V lb ps) (hl : lb < V.heap.size) (hg : V.grownBy V' r) (hr : ∀ k, r = some k → k ≠ lb) : LinesAt V' lb ps := fun j hj =>
  (World.cell?_of_block (a := ⟨lb, j, none⟩) (hg.block lb hl (fun e => hr lb e.symm rfl))).trans (h j hj)
theorem mk_size (l : List UInt8) : (⟨l.toArray⟩ : ByteArray).size = l.length := by simp [ByteArray.size]
theorem last_pos (l : List UInt8) (h : l.getLast? = some 10) : 1 ≤ l.length := by
  cases l with
  | nil => cases h
  | cons a r => simp
def dat (x : ByteArray) : List UInt8 := x.data.toList
theorem main_bad1 (x : List UInt8) (h : ∀ ns, numsU (spl 32 x).tail = some ns → ns.length ≠ 1) : lineP true x = .bad := by
  rw [lineP_first]
  split
  · unfold mainU'
    split
    · rename_i n hn; exact absurd rfl (h _ hn)
    · rfl
  · rfl
theorem main_bad2 (x : List UInt8) (h : Lib.hasPrefix x [109, 97, 105, 110, 32] = false) : lineP true x = .bad := by rw [lineP_first, h]; rfl
theorem main_good (x : List UInt8) (n : Int) (h : Lib.hasPrefix x [109, 97, 105, 110, 32] = true) (hn : numsU (spl 32 x).tail = some [n]) : lineP true x = .main n := by rw [lineP_first, if_pos h, hn]; rfl
theorem fun_bad (A : Option (List Int)) (h : ∀ ns, A = some ns → ns.length ≠ 3) : funU' A = .bad := by
  unfold funU'
  split
  · exact absurd rfl (h _ rfl)
  · rfl
theorem isRow_cells {w : World} {B : Nat} {e : TypeId} {v : Value} {n : Nat} {l : List Int} (h : w.ownsRow B e 1 v n (ints l)) (hl : l.length = n) (hn : 0 < n) : ∃ b off c, v = .slice (some ⟨b, off, none⟩) n c ∧ n ≤ c ∧ b < w.heap.size ∧ ∀ k, k < n → w.cell? ⟨b, off + k, none⟩ = some (.int .i64 (l.getD k 0)) := by
  obtain ⟨a, c, hv, hlc, hcell⟩ := isRow_owns h
  obtain ⟨b, off, rfl, hlt, hx⟩ := hcell hn
  exact ⟨b, off, c, hv, hlc, hlt, fun k hk => by rw [hx k (by rw [ints_length]; omega), ints_at _ _ (by omega)]⟩
set_option maxHeartbeats 4000000 in
set_option maxRecDepth 100000 in
theorem read_any (s : ByteArray) (w : World) (hE : EnvN w) (hs : s.size ≤ 1000000) :
    Calls Tryz.prog 40 #[.string s] w (ReadAns s.data.toList w) := by
  have hq0 := q_start w
  obtain ⟨is0, his, hsz0, hsz1, hsz2⟩ := info_parts info_str
  obtain ⟨ii0, hii, hiz0, hiz1, hiz2⟩ := info_parts info_instr
  obtain ⟨if0, hif, hfz0, hfz1, hfz2⟩ := info_parts info_fun
  have hz1 : ((w.alloc (.cells #[.slice none 0 0, .slice none 0 0, .int .i64 0] 25)).alloc (.cells #[.slice none 0 0, .slice none 0 0, .int .i64 0] 25)).heap.size = w.heap.size + 2 := by simp
  have hdl := data_len s
  go_enter Tryz.func40, Tryz.ntmps40
  go_wp2_with fail
  generalize ((w.alloc (.cells #[.slice none 0 0, .slice none 0 0, .int .i64 0] 25)).alloc (.cells #[.slice none 0 0, .slice none 0 0, .int .i64 0] 25)) = V1 at *
  have Q := Lib.hid hq0
  refine (Tryz.strings_HasSuffix s ⟨#[10]⟩ V1 (by omega)).mono ?_
  rintro e w' ⟨rfl, rfl⟩
  rw [show (⟨#[10]⟩ : ByteArray).data.toList = [10] from rfl, suffix_nl]
  rename World => V1
  by_cases hnl : s.data.toList.getLast? = some 10
  rotate_left
  · have HN := Lib.hid (readT_no _ hnl)
    rw [decide_eq_false hnl]
    have S := Lib.hid (PSt.nil V1 (w.heap.size + 2))
    have hB : w.heap.size + 1 < w.heap.size + 2 := by omega
    clear hnl hq0
    obtain ⟨p0, p1, p2⟩ := ins_cells Q.out.pr
    obtain ⟨z0, z1, z2⟩ := ins_cells Q.out.rs
    have fz0 : V1.frozen? ⟨w.heap.size, 0, none⟩ = false := Lib.frozen_of_heap Q.out.rs 0
    have fz1 : V1.frozen? ⟨w.heap.size, 1, none⟩ = false := Lib.frozen_of_heap Q.out.rs 1
    have fz2 : V1.frozen? ⟨w.heap.size, 2, none⟩ = false := Lib.frozen_of_heap Q.out.rs 2
    have HD := Lib.hid (QSt.doneP Q.out S.out hB)
    clear Q S
    go_wp2_with fail
    refine bodyPost_ret (v := .tuple #[.agg #[.slice none 0 0, .slice none 0 0, .int .i64 0], .bool false]) ?_ rfl ⟨_, _, ⟨[], [], 0⟩, false, rfl, HD.out.2.1, HD.out.2.2, HN.out, by nofun⟩
    rw [results_cell_tmp (p := 2) (u := 3) (ty := 25) rfl]
    simp [asAddr, run_loadVar_row _ _ _ _ _ _ _ HD.out.1 Tryz.underlying25 rfl prog_info, Result.andThen]
  · rw [decide_eq_true hnl]
    have HR := Lib.hid (readT_yes _ hnl)
    have htr := trim_nl _ hnl
    have hs1 := last_pos _ hnl
    have hE1 := hE.below Q.out.below
    clear hnl hq0
    go_wp2_with fail
    refine (Tryz.strings_TrimSuffix s ⟨#[10]⟩ V1 (by omega)).mono ?_
    rintro e w' ⟨rfl, rfl⟩
    rw [show (⟨#[10]⟩ : ByteArray).data.toList = [10] from rfl, htr]
    rename World => V1
    have hsd : (⟨s.data.toList.dropLast.toArray⟩ : ByteArray).size = s.data.toList.dropLast.length := mk_size _
    have hdz : s.data.toList.dropLast.length + 1 ≤ s.size := by rw [List.length_dropLast]; omega
    have HS := Lib.hid (split_any 10 ⟨s.data.toList.dropLast.toArray⟩ V1 hE1 (by omega))
    have hpd := spB_data 10 ⟨s.data.toList.dropLast.toArray⟩
    have hple := spB_le 10 ⟨s.data.toList.dropLast.toArray⟩
    have Hsz := Lib.hid (spB_small 10 ⟨s.data.toList.dropLast.toArray⟩ 1000000 (by omega))
    have hpne : 1 ≤ (spB 10 ⟨s.data.toList.dropLast.toArray⟩).length := by rw [spB_length]; omega
    have hRT : Hid (readT s.data.toList = foldT true ⟨[], [], 0⟩ ((spB 10 ⟨s.data.toList.dropLast.toArray⟩).map dat)) := by
      show _ = _; rw [HR.out]; exact congrArg _ hpd.symm
    have hpl : (spB 10 ⟨s.data.toList.dropLast.toArray⟩).length ≤ s.size := by omega
    generalize spB 10 ⟨s.data.toList.dropLast.toArray⟩ = ps at *
    clear hpd hple HR hsd hdz htr
    go_wp2_with fail
    refine HS.out.mono ?_
    clear HS
    rintro e w2 ⟨rfl, hT, hb2⟩
    have hlt1 := Q.out.lt
    have hgr2 := grown_below hb2
    have hQ2 := Q.out.grown hgr2 (by nofun)
    have hsz2 := hb2.size
    have hCl : LinesAt w2 V1.heap.size ps ∧ V1.heap.size < w2.heap.size := by
      obtain ⟨a, c, hv, hlc, hcell⟩ := hT
      obtain ⟨b, off, rfl, hlt, hc⟩ := hcell hpne
      have hv' := (Value.slice.inj hv).1
      simp at hv'
      obtain ⟨rfl, rfl⟩ := hv'
      refine ⟨fun j hj => ?_, hlt⟩
      have := hc j (by rw [strCells_length]; exact hj)
      rw [Nat.zero_add, strCells_at _ _ hj] at this
      exact this
    obtain ⟨lb, hlb⟩ : ∃ lb, V1.heap.size = lb := ⟨_, rfl⟩
    rw [hlb] at hCl hlt1 ⊢
    obtain ⟨hCl, hlbw⟩ := hCl
    have Q2 := Lib.hid hQ2
    have C2 := Lib.hid hCl
    have S2 := Lib.hid (PSt.nil w2 w2.heap.size)
    obtain ⟨B, hBe⟩ : ∃ B, w2.heap.size = B := ⟨_, rfl⟩
    rw [hBe] at S2 hlbw
    have hB : w.heap.size + 1 < B := by omega
    have hB2 : B ≤ w2.heap.size := by omega
    have HRT : Hid (readT s.data.toList = foldT (decide (0 = 0)) (strip ⟨[], [], 0⟩) ((ps.drop 0).map dat)) := hRT
    clear hT hb2 hgr2 hQ2 hCl Q hlb hBe hRT hsz2
    go_wp2_with fail
    go_loopw [26] (fun i wr => ∃ (k : Nat) (fv tv : Value) (fs : List FunD) (ts : List ByteArray) (main : Int), k ≤ ps.length ∧ i = .int .i64 k ∧ Hid (QSt w wr fv tv main) ∧ Hid (PSt wr B fv tv fs ts) ∧ Hid (LinesAt wr lb ps) ∧ Hid (readT s.data.toList = foldT (decide (k = 0)) (strip ⟨fs, ts, main⟩) ((ps.drop k).map dat)) ∧ fs.length ≤ k ∧ ts.length ≤ k ∧ (∀ f ∈ fs, f.code.length ≤ k) ∧ B ≤ wr.heap.size) (fun i _ => ps.length - (intOf i).toNat)
    case atStart => exact ⟨0, _, _, [], [], 0, Nat.zero_le _, rfl, Q2, S2, C2, HRT, Nat.le_refl _, Nat.le_refl _, fun f hf => (by cases hf), hB2⟩
    case round =>
      clear Q2 S2 C2 HRT hB2
      rename World => V
      obtain ⟨k, fv, tv, fs, ts, main, hk, rfl, Q, S, C, HRT, hfl, htl, hcl, hBV⟩ := hrel
      have hcl' := Lib.hid hcl
      clear hcl
      have hlbv : lb < V.heap.size := by omega
      obtain ⟨fa, fc, rfl⟩ := owns_slice_n S.out.fns
      obtain ⟨ta, tc, rfl⟩ := owns_slice_n S.out.txt
      have hEV := hE.below Q.out.below
      by_cases hkl : k < ps.length
      · have c0 := C.out k hkl
        have hx := Hsz.out _ (getD_mem default ps k hkl)
        have hRx := HRT.out
        rw [List.drop_eq_getElem_cons hkl, List.map_cons, show ps[k] = ps.getD k default by simp [List.getD, hkl]] at hRx
        generalize ps.getD k default = x at *
        have HRX : Hid (readT s.data.toList = foldT (decide (k = 0)) (strip ⟨fs, ts, main⟩) (dat x :: (ps.drop (k + 1)).map dat)) := hRx
        clear hRx HRT
        by_cases hk0 : k = 0
        · subst hk0
          have HRX' : Hid (readT s.data.toList = foldT true (strip ⟨fs, ts, main⟩) (dat x :: (ps.drop (0 + 1)).map dat)) := HRX
          have HNm : Hid (Calls Tryz.prog 64 #[.string x, .int .i64 1] V (NumsAns x.data.toList 1 V)) := numbers_any x 1 V hEV hx (by decide)
          clear HRX
          go_wp2_with fail
          refine HNm.out.mono ?_
          clear HNm
          rintro e w3 ⟨v, ok, rfl, hb3, hy, hx'⟩
          have hgr := grown_below hb3
          have Q' := Lib.hid (Q.out.grown hgr (by nofun))
          have S' := Lib.hid (S.out.grown hgr (by nofun))
          have C' := Lib.hid (cells_grown C.out hlbv hgr (by nofun))
          have hle' := hgr.size
          clear Q S C hgr
          have Q := Q'
          have S := S'
          have C := C'
          clear Q' S' C'
          cases ok
          · have HN : Hid (readT s.data.toList = none) := foldT_none HRX'.out (by rw [show lineP true (dat x) = .bad from main_bad1 _ (hx' rfl).2]; rfl)
            obtain ⟨rfl, _⟩ := hx' rfl
            clear hy hx' HRX' c0
            obtain ⟨p0, p1, p2⟩ := ins_cells Q.out.pr
            obtain ⟨z0, z1, z2⟩ := ins_cells Q.out.rs
            have fz0 : (w3).frozen? ⟨w.heap.size, 0, none⟩ = false := Lib.frozen_of_heap Q.out.rs 0
            have fz1 : (w3).frozen? ⟨w.heap.size, 1, none⟩ = false := Lib.frozen_of_heap Q.out.rs 1
            have fz2 : (w3).frozen? ⟨w.heap.size, 2, none⟩ = false := Lib.frozen_of_heap Q.out.rs 2
            have HD := Lib.hid (QSt.doneP Q.out S.out hB)
            clear Q S
            go_wp2_with fail
            refine bodyPost_ret (v := .tuple #[.agg #[.slice fa fs.length fc, .slice ta ts.length tc, .int .i64 main], .bool false]) ?_ rfl ⟨_, _, ⟨fs, ts, main⟩, false, rfl, HD.out.2.1, HD.out.2.2, HN.out, by nofun⟩
            rw [results_cell_tmp (p := 2) (u := 3) (ty := 25) rfl]
            simp [asAddr, run_loadVar_row _ _ _ _ _ _ _ HD.out.1 Tryz.underlying25 rfl prog_info, Result.andThen]
          · obtain ⟨ns, hn, hl, hO⟩ := hy rfl
            obtain ⟨n, rfl⟩ : ∃ n, ns = [n] := by
              match ns, hl with
              | [n], _ => exact ⟨n, rfl⟩
            obtain ⟨b, off, c, rfl, hlc, hlt, hcells⟩ := isRow_cells hO rfl (by decide)
            have d0 := hcells 0 (by decide)
            rw [Nat.add_zero] at d0
            clear hy hx' hO hcells c0
            go_wp2_with fail
            refine (Tryz.strings_HasPrefix x ⟨#[109, 97, 105, 110, 32]⟩ w3).mono ?_
            rintro e w' ⟨rfl, rfl⟩
            rename World => w3
            rw [show (⟨#[109, 97, 105, 110, 32]⟩ : ByteArray).data.toList = [109, 97, 105, 110, 32] from rfl]
            cases hp : Lib.hasPrefix x.data.toList [109, 97, 105, 110, 32]
            · have HN : Hid (readT s.data.toList = none) := foldT_none HRX'.out (by rw [show lineP true (dat x) = .bad from main_bad2 _ hp]; rfl)
              clear hp HRX' d0
              obtain ⟨p0, p1, p2⟩ := ins_cells Q.out.pr
              obtain ⟨z0, z1, z2⟩ := ins_cells Q.out.rs
              have fz0 : (w3).frozen? ⟨w.heap.size, 0, none⟩ = false := Lib.frozen_of_heap Q.out.rs 0
              have fz1 : (w3).frozen? ⟨w.heap.size, 1, none⟩ = false := Lib.frozen_of_heap Q.out.rs 1
              have fz2 : (w3).frozen? ⟨w.heap.size, 2, none⟩ = false := Lib.frozen_of_heap Q.out.rs 2
              have HD := Lib.hid (QSt.doneP Q.out S.out hB)
              clear Q S
              go_wp2_with fail
              refine bodyPost_ret (v := .tuple #[.agg #[.slice fa fs.length fc, .slice ta ts.length tc, .int .i64 main], .bool false]) ?_ rfl ⟨_, _, ⟨fs, ts, main⟩, false, rfl, HD.out.2.1, HD.out.2.2, HN.out, by nofun⟩
              rw [results_cell_tmp (p := 2) (u := 3) (ty := 25) rfl]
              simp [asAddr, run_loadVar_row _ _ _ _ _ _ _ HD.out.1 Tryz.underlying25 rfl prog_info, Result.andThen]
            · have HR' : Hid (readT s.data.toList = foldT (decide (0 + 1 = 0)) (strip ⟨fs, ts, n⟩) ((ps.drop (0 + 1)).map dat)) := foldT_some HRX'.out (by rw [show lineP true (dat x) = .main n from main_good _ n hp hn]; rfl)
              have fp2 : w3.frozen? ⟨w.heap.size + 1, 2, none⟩ = false := Lib.frozen_of_heap Q.out.pr 2
              obtain ⟨p0, p1, p2⟩ := ins_cells Q.out.pr
              clear hp HRX'
              go_wp2_with fail
              go_roundw
              case rel => exact ⟨0 + 1, _, _, fs, ts, n, by omega, by go_num, Q.out.set 2 _ rfl, S.out.grown (grown_set _ _ _ _) (fun z hz => by cases hz; exact hB), cells_grown C.out (by omega) (grown_set _ _ _ _) (fun z hz => by cases hz; omega), HR', by omega, by omega, fun f hf => Nat.le_succ_of_le (hcl'.out f hf), by simp; omega⟩
              case measure => simp [intOf]; omega
        · have hkb : ((k : Int) == 0) = false := beq_eq_false_iff_ne.2 (by omega)
          have HRX' : Hid (readT s.data.toList = foldT false (strip ⟨fs, ts, main⟩) (dat x :: (ps.drop (k + 1)).map dat)) := by have h := HRX.out; rw [decide_eq_false hk0] at h; exact h
          have hk1 : decide (k + 1 = 0) = false := decide_eq_false (by omega)
          clear HRX
          go_wp2_with fail
          refine (Tryz.strings_HasPrefix x ⟨#[115, 116, 114, 105, 110, 103, 32]⟩ V).mono ?_
          rintro e w' ⟨rfl, rfl⟩
          rename World => V
          rw [show (⟨#[115, 116, 114, 105, 110, 103, 32]⟩ : ByteArray).data.toList = [115, 116, 114, 105, 110, 103, 32] from rfl]
          cases hp7 : Lib.hasPrefix x.data.toList [115, 116, 114, 105, 110, 103, 32]
          rotate_left
          · have htp : Lib.trimPrefix x.data.toList [115, 116, 114, 105, 110, 103, 32] = x.data.toList.drop 7 := by unfold Lib.trimPrefix; rw [if_pos hp7]; rfl
            have hlp := lineP_string _ hp7
            go_wp2_with fail
            refine (Tryz.strings_TrimPrefix x ⟨#[115, 116, 114, 105, 110, 103, 32]⟩ V).mono ?_
            rintro e w' ⟨rfl, rfl⟩
            rename World => V
            rw [show (⟨#[115, 116, 114, 105, 110, 103, 32]⟩ : ByteArray).data.toList = [115, 116, 114, 105, 110, 103, 32] from rfl, htp]
            have HU := Lib.hid (unquote_any ⟨(x.data.toList.drop 7).toArray⟩ V)
            go_wp2_with fail
            refine HU.out.mono ?_
            clear HU
            rintro e w3 ⟨t, er, rfl, hb3, hu⟩
            rw [show (⟨(x.data.toList.drop 7).toArray⟩ : ByteArray).data.toList = x.data.toList.drop 7 by simp] at hu
            rw [hu] at hlp
            clear hu htp
            have hgr := grown_below hb3
            have Q' := Lib.hid (Q.out.grown hgr (by nofun))
            have S' := Lib.hid (S.out.grown hgr (by nofun))
            have C' := Lib.hid (cells_grown C.out hlbv hgr (by nofun))
            have hle' := hgr.size
            clear Q S C hgr
            have Q := Q'
            have S := S'
            have C := C'
            clear Q' S' C'
            by_cases her : er = 0
            · subst her
              have hlp' : lineP false (dat x) = .text t.data.toList := hlp
              by_cases hf0 : fs.length = 0
              · obtain rfl : fs = [] := List.length_eq_zero_iff.1 hf0
                have HR' : Hid (readT s.data.toList = foldT (decide (k + 1 = 0)) (strip ⟨[], ts ++ [t], main⟩) ((ps.drop (k + 1)).map dat)) := by show _ = _; rw [hk1]; exact foldT_some HRX'.out (by rw [hlp']; rfl)
                clear hlp hlp' HRX' hp7
                obtain ⟨p0, p1, p2⟩ := ins_cells Q.out.pr
                go_wp2_with (at_builtin; refine wpList_append_lies _ rfl _ _ 23 rfl B 9 is0 (.string ByteArray.empty) 1 16 Tryz.underlying23 his hsz0 hsz1 hsz2 rfl (by decide) _ ts.length (strCells ts) rfl (S.out.txt.alloc _) ⟨w3.heap.size, 0, none⟩ 1 1 [.string t] rfl rfl ?c1 ?c2 (by decide) ?c3 ?c4 ?c5 _ rfl ?_)
                case c1 => exact cell_one_new _ _ _
                case c2 => intro u hu; simp at hu; subst hu; rfl
                case c3 => unfold maxLen; omega
                case c4 => omega
                case c5 => simp; omega
                intro g cap w7 hown7 hgrow7 hat7 hlt7
                have hga := grown_alloc w3 (.cells #[.string t] 9)
                have Q7 := Lib.hid ((Q.out.grown hga (by nofun)).grown hgrow7 (fun q hq => by have := (owns_lt S.out.txt q hq).1; omega))
                have S7 := Lib.hid ((S.out.grown hga (by nofun)).text t rfl hown7 hgrow7)
                have C7 := Lib.hid (cells_grown (cells_grown C.out (by omega) hga (by nofun)) (by simp; omega) hgrow7 (fun q hq => by have := (owns_lt S.out.txt q hq).1; omega))
                have hz7 : B ≤ w7.heap.size := by have := hgrow7.size; simp at this; omega
                have fp1 : w7.frozen? ⟨w.heap.size + 1, 1, none⟩ = false := Lib.frozen_of_heap Q7.out.pr 1
                obtain ⟨q0, q1, q2⟩ := ins_cells Q7.out.pr
                clear hown7 hgrow7 hat7 hga Q S C p0 p1 p2
                go_wp2_with fail
                go_roundw
                case rel => exact ⟨k + 1, _, _, [], ts ++ [t], main, by omega, by go_num, Q7.out.set 1 _ rfl, S7.out.grown (grown_set _ _ _ _) (fun z hz => by cases hz; exact hB), cells_grown C7.out (by omega) (grown_set _ _ _ _) (fun z hz => by cases hz; omega), HR', by simp, by simp; omega, fun f hf => (by cases hf), by simp; omega⟩
                case measure => simp [intOf]; omega
              · have hfp : 0 < fs.length := by omega
                have HN : Hid (readT s.data.toList = none) := foldT_none HRX'.out (by rw [hlp']; show (if (strip ⟨fs, ts, main⟩).funs = [] then _ else _) = _; rw [if_neg (by intro h; simp only [strip, List.map_eq_nil_iff] at h; exact hf0 (by rw [h]; rfl))])
                clear hlp hlp' HRX' hp7
                obtain ⟨p0, p1, p2⟩ := ins_cells Q.out.pr
                obtain ⟨z0, z1, z2⟩ := ins_cells Q.out.rs
                have fz0 : (w3).frozen? ⟨w.heap.size, 0, none⟩ = false := Lib.frozen_of_heap Q.out.rs 0
                have fz1 : (w3).frozen? ⟨w.heap.size, 1, none⟩ = false := Lib.frozen_of_heap Q.out.rs 1
                have fz2 : (w3).frozen? ⟨w.heap.size, 2, none⟩ = false := Lib.frozen_of_heap Q.out.rs 2
                have HD := Lib.hid (QSt.doneP Q.out S.out hB)
                clear Q S
                go_wp2_with fail
                refine bodyPost_ret (v := .tuple #[.agg #[.slice fa fs.length fc, .slice ta ts.length tc, .int .i64 main], .bool false]) ?_ rfl ⟨_, _, ⟨fs, ts, main⟩, false, rfl, HD.out.2.1, HD.out.2.2, HN.out, by nofun⟩
                rw [results_cell_tmp (p := 2) (u := 3) (ty := 25) rfl]
                simp [asAddr, run_loadVar_row _ _ _ _ _ _ _ HD.out.1 Tryz.underlying25 rfl prog_info, Result.andThen]
            · have hlp' : lineP false (dat x) = .bad := by rw [if_neg her] at hlp; exact hlp
              have herb : (er == 0) = false := beq_eq_false_iff_ne.2 her
              have HN : Hid (readT s.data.toList = none) := foldT_none HRX'.out (by rw [hlp']; rfl)
              clear hlp hlp' HRX' hp7
              obtain ⟨p0, p1, p2⟩ := ins_cells Q.out.pr
              obtain ⟨z0, z1, z2⟩ := ins_cells Q.out.rs
              have fz0 : (w3).frozen? ⟨w.heap.size, 0, none⟩ = false := Lib.frozen_of_heap Q.out.rs 0
              have fz1 : (w3).frozen? ⟨w.heap.size, 1, none⟩ = false := Lib.frozen_of_heap Q.out.rs 1
              have fz2 : (w3).frozen? ⟨w.heap.size, 2, none⟩ = false := Lib.frozen_of_heap Q.out.rs 2
              have HD := Lib.hid (QSt.doneP Q.out S.out hB)
              clear Q S
              go_wp2_with fail
              refine bodyPost_ret (v := .tuple #[.agg #[.slice fa fs.length fc, .slice ta ts.length tc, .int .i64 main], .bool false]) ?_ rfl ⟨_, _, ⟨fs, ts, main⟩, false, rfl, HD.out.2.1, HD.out.2.2, HN.out, by nofun⟩
              rw [results_cell_tmp (p := 2) (u := 3) (ty := 25) rfl]
              simp [asAddr, run_loadVar_row _ _ _ _ _ _ _ HD.out.1 Tryz.underlying25 rfl prog_info, Result.andThen]
          · go_wp2_with fail
            refine (Tryz.strings_HasPrefix x ⟨#[102, 117, 110, 32]⟩ V).mono ?_
            rintro e w' ⟨rfl, rfl⟩
            rename World => V
            rw [show (⟨#[102, 117, 110, 32]⟩ : ByteArray).data.toList = [102, 117, 110, 32] from rfl]
            cases hp4 : Lib.hasPrefix x.data.toList [102, 117, 110, 32]
            rotate_left
            · have hlp := lineP_function _ hp7 hp4
              have HNm : Hid (Calls Tryz.prog 64 #[.string x, .int .i64 3] V (NumsAns x.data.toList 3 V)) := numbers_any x 3 V hEV hx (by decide)
              go_wp2_with fail
              refine HNm.out.mono ?_
              clear HNm
              rintro e w3 ⟨v, ok, rfl, hb3, hy, hx'⟩
              have hgr := grown_below hb3
              have Q' := Lib.hid (Q.out.grown hgr (by nofun))
              have S' := Lib.hid (S.out.grown hgr (by nofun))
              have C' := Lib.hid (cells_grown C.out hlbv hgr (by nofun))
              have hle' := hgr.size
              clear Q S C hgr
              have Q := Q'
              have S := S'
              have C := C'
              clear Q' S' C'
              cases ok
              · have HN : Hid (readT s.data.toList = none) := foldT_none HRX'.out (by rw [show lineP false (dat x) = .bad from hlp.trans (fun_bad _ (hx' rfl).2)]; rfl)
                obtain ⟨rfl, _⟩ := hx' rfl
                clear hy hx' HRX' c0 hlp hp7 hp4
                obtain ⟨p0, p1, p2⟩ := ins_cells Q.out.pr
                obtain ⟨z0, z1, z2⟩ := ins_cells Q.out.rs
                have fz0 : (w3).frozen? ⟨w.heap.size, 0, none⟩ = false := Lib.frozen_of_heap Q.out.rs 0
                have fz1 : (w3).frozen? ⟨w.heap.size, 1, none⟩ = false := Lib.frozen_of_heap Q.out.rs 1
                have fz2 : (w3).frozen? ⟨w.heap.size, 2, none⟩ = false := Lib.frozen_of_heap Q.out.rs 2
                have HD := Lib.hid (QSt.doneP Q.out S.out hB)
                clear Q S
                go_wp2_with fail
                refine bodyPost_ret (v := .tuple #[.agg #[.slice fa fs.length fc, .slice ta ts.length tc, .int .i64 main], .bool false]) ?_ rfl ⟨_, _, ⟨fs, ts, main⟩, false, rfl, HD.out.2.1, HD.out.2.2, HN.out, by nofun⟩
                rw [results_cell_tmp (p := 2) (u := 3) (ty := 25) rfl]
                simp [asAddr, run_loadVar_row _ _ _ _ _ _ _ HD.out.1 Tryz.underlying25 rfl prog_info, Result.andThen]
              · obtain ⟨ns, hn, hl, hO⟩ := hy rfl
                obtain ⟨n1, n2, n3, rfl⟩ : ∃ a b c, ns = [a, b, c] := by
                  match ns, hl with
                  | [a, b, c], _ => exact ⟨a, b, c, rfl⟩
                obtain ⟨b, off, c, rfl, hlc, hlt, hcells⟩ := isRow_cells hO rfl (by decide)
                have d0 := hcells 0 (by decide)
                rw [Nat.add_zero] at d0
                have d1 := hcells 1 (by decide)
                have d2 := hcells 2 (by decide)
                have HR' : Hid (readT s.data.toList = foldT (decide (k + 1 = 0)) (strip ⟨fs ++ [⟨n1, n2, n3, .slice none 0 0, []⟩], ts, main⟩) ((ps.drop (k + 1)).map dat)) := by
                  show _ = _; rw [hk1]; exact foldT_some HRX'.out (by rw [show lineP false (dat x) = .fn n1 n2 n3 from hlp.trans (by rw [hn]; rfl)]; simp [stepT, strip, stripF])
                clear hy hx' hO hcells c0 hlp hp7 hp4 HRX'
                obtain ⟨p0, p1, p2⟩ := ins_cells Q.out.pr
                have y0 : w3.drew.cell? ⟨w.heap.size + 1, 0, none⟩ = some (.slice fa fs.length fc) := p0
                have e0 : w3.drew.cell? ⟨b, off, none⟩ = some (.int .i64 n1) := d0
                have e1 : w3.drew.cell? ⟨b, off + 1, none⟩ = some (.int .i64 n2) := d1
                have e2 : w3.drew.cell? ⟨b, off + 2, none⟩ = some (.int .i64 n3) := d2
                have y1 : (w3.drew.alloc (.cells #[.int .i64 n1, .int .i64 n2, .int .i64 n3, .slice none 0 0] 48)).cell? ⟨w.heap.size + 1, 0, none⟩ = some (.slice fa fs.length fc) := (World.cell?_of_block (a := ⟨w.heap.size + 1, 0, none⟩) ((grown_alloc w3.drew (.cells #[.int .i64 n1, .int .i64 n2, .int .i64 n3, .slice none 0 0] 48)).block (w.heap.size + 1) (by have := Q.out.lt; exact this) (by nofun))).trans y0
                have y2 : (w3.alloc (.cells #[.int .i64 n1, .int .i64 n2, .int .i64 n3, .slice none 0 0] 48)).drew.cell? ⟨w.heap.size + 1, 0, none⟩ = some (.slice fa fs.length fc) := y1
                clear p0 p1 p2 d0 d1 d2
                go_upto_region 27 with fail
                go_region_law (
                 refine step_append_lies _ (by rfl) _ _ _ (by rfl) B 48 if0 (.agg #[.int .i64 0, .int .i64 0, .int .i64 0, .slice none 0 0]) 4 48 Tryz.underlying22 hif hfz0 hfz1 hfz2 (by rfl) (by decide) _ fs.length (funCells fs) (by rfl) (by first | exact S.out.fns.alloc _ | exact (show w3.drew.ownsRow B 48 4 _ fs.length (funCells fs) from S.out.fns).alloc _) ⟨w3.heap.size, 0, none⟩ 1 1 [.int .i64 n1, .int .i64 n2, .int .i64 n3, .slice none 0 0] (by rfl) (by rfl) (by first | exact World.news_of_block (cs := #[.int .i64 n1, .int .i64 n2, .int .i64 n3, .slice none 0 0]) (new_heap w3 _) | exact World.news_of_block (cs := #[.int .i64 n1, .int .i64 n2, .int .i64 n3, .slice none 0 0]) (new_heap w3.drew _)) (by intro u hu; simp at hu; rcases hu with rfl | rfl | rfl | rfl <;> rfl) (by decide) (by unfold maxLen; omega) (by omega) (by simp; omega) _ rfl ?_
                 intro g cap w7 hown7 hgrow7 hat7 hlt7
                 have hga := grown_alloc w3 (.cells #[.int .i64 n1, .int .i64 n2, .int .i64 n3, .slice none 0 0] 48)
                 have hgu : (w3.alloc (.cells #[.int .i64 n1, .int .i64 n2, .int .i64 n3, .slice none 0 0] 48)).grownBy w7 (Value.slice fa fs.length fc).ownBlock := ⟨hgrow7.os, hgrow7.tape, hgrow7.output, hgrow7.size, hgrow7.block⟩
                 have Q7 := Lib.hid ((Q.out.grown hga (by nofun)).grown hgu (fun q hq => by have := (owns_lt S.out.fns q hq).1; omega))
                 have S7 := Lib.hid ((S.out.grown hga (by nofun)).fn n1 n2 n3 rfl hown7 hgu)
                 have C7 := Lib.hid (cells_grown (cells_grown C.out (by omega) hga (by nofun)) (by simp; omega) hgu (fun q hq => by have := (owns_lt S.out.fns q hq).1; omega))
                 have hz7 : B ≤ w7.heap.size := (by have := hgu.size; simp at this; omega)
                 have fp0 : w7.frozen? ⟨w.heap.size + 1, 0, none⟩ = false := Lib.frozen_of_heap Q7.out.pr 0
                 obtain ⟨q0, q1, q2⟩ := ins_cells Q7.out.pr
                 clear hown7 hgrow7 hat7 hga hgu)
                all_goals
                  go_wp2_with fail
                  go_roundw
                all_goals first
                  | exact ⟨k + 1, _, _, fs ++ [(⟨n1, n2, n3, .slice none 0 0, []⟩ : FunD)], ts, main, by omega, by go_num, Lib.hid (Q7.out.set 0 _ rfl), Lib.hid (S7.out.grown (grown_set _ _ _ _) (fun z hz => by cases hz; exact hB)), Lib.hid (cells_grown C7.out (by omega) (grown_set _ _ _ _) (fun z hz => by cases hz; omega)), HR', by simp; omega, by omega, fun y hy => by rcases List.mem_append.1 hy with hy | hy; exact Nat.le_succ_of_le (hcl'.out y hy); (obtain rfl : y = _ := by simpa using hy); exact Nat.zero_le _, by simp; omega⟩
                  | (simp [intOf]; omega)
            · have hlp := lineP_other _ hp7 hp4
              have HI := Lib.hid (instruction_any x V hEV hx)
              go_wp2_with fail
              refine HI.out.mono ?_
              clear HI
              rintro e w3 ⟨i, ok, rfl, hb3, hi⟩
              rw [hi] at hlp
              clear hi
              have hgr := grown_below hb3
              have Q' := Lib.hid (Q.out.grown hgr (by nofun))
              have S' := Lib.hid (S.out.grown hgr (by nofun))
              have C' := Lib.hid (cells_grown C.out hlbv hgr (by nofun))
              have hle' := hgr.size
              clear Q S C hgr
              have Q := Q'
              have S := S'
              have C := C'
              clear Q' S' C'
              have hIc := new_heap w3 (.cells #[.int .i64 i.op, .int .i64 i.a, .int .i64 i.b] 64)
              have hgr := grown_alloc w3 (.cells #[.int .i64 i.op, .int .i64 i.a, .int .i64 i.b] 64)
              have hzI : (w3.alloc (.cells #[.int .i64 i.op, .int .i64 i.a, .int .i64 i.b] 64)).heap.size = w3.heap.size + 1 := by simp
              have Q' := Lib.hid (Q.out.grown hgr (by nofun))
              have S' := Lib.hid (S.out.grown hgr (by nofun))
              have C' := Lib.hid (cells_grown C.out (by omega) hgr (by nofun))
              clear Q S C hgr
              have Q := Q'
              have S := S'
              have C := C'
              clear Q' S' C'
              go_upto_region 9 with fail
              generalize w3.alloc (.cells #[.int .i64 i.op, .int .i64 i.a, .int .i64 i.b] 64) = w4 at *
              have hI4 := heap_lt hIc
              clear hzI
              cases ok
              · have HN : Hid (readT s.data.toList = none) := foldT_none HRX'.out (by rw [show lineP false (dat x) = .bad from hlp]; rfl)
                clear HRX' c0 hlp hp7 hp4
                obtain ⟨p0, p1, p2⟩ := ins_cells Q.out.pr
                obtain ⟨z0, z1, z2⟩ := ins_cells Q.out.rs
                have fz0 : (w4).frozen? ⟨w.heap.size, 0, none⟩ = false := Lib.frozen_of_heap Q.out.rs 0
                have fz1 : (w4).frozen? ⟨w.heap.size, 1, none⟩ = false := Lib.frozen_of_heap Q.out.rs 1
                have fz2 : (w4).frozen? ⟨w.heap.size, 2, none⟩ = false := Lib.frozen_of_heap Q.out.rs 2
                have HD := Lib.hid (QSt.doneP Q.out S.out hB)
                clear Q S
                go_wp2_with fail
                refine bodyPost_ret (v := .tuple #[.agg #[.slice fa fs.length fc, .slice ta ts.length tc, .int .i64 main], .bool false]) ?_ rfl ⟨_, _, ⟨fs, ts, main⟩, false, rfl, HD.out.2.1, HD.out.2.2, HN.out, by nofun⟩
                rw [results_cell_tmp (p := 2) (u := 3) (ty := 25) rfl]
                simp [asAddr, run_loadVar_row _ _ _ _ _ _ _ HD.out.1 Tryz.underlying25 rfl prog_info, Result.andThen]
              · have hlp' : lineP false (dat x) = .ins i := hlp
                by_cases hf0 : fs.length = 0
                · obtain rfl : fs = [] := List.length_eq_zero_iff.1 hf0
                  have HN : Hid (readT s.data.toList = none) := foldT_none HRX'.out (by rw [hlp']; rfl)
                  have Q0 : Hid (QSt w w4 (.slice fa 0 fc) (.slice ta ts.length tc) main) := Q
                  have S0 : Hid (PSt w4 B (.slice fa 0 fc) (.slice ta ts.length tc) [] ts) := S
                  clear HRX' c0 hlp hlp' hp7 hp4 hf0 Q S
                  have Q := Q0
                  have S := S0
                  clear Q0 S0
                  obtain ⟨p0, p1, p2⟩ := ins_cells Q.out.pr
                  obtain ⟨z0, z1, z2⟩ := ins_cells Q.out.rs
                  have fz0 : (w4).frozen? ⟨w.heap.size, 0, none⟩ = false := Lib.frozen_of_heap Q.out.rs 0
                  have fz1 : (w4).frozen? ⟨w.heap.size, 1, none⟩ = false := Lib.frozen_of_heap Q.out.rs 1
                  have fz2 : (w4).frozen? ⟨w.heap.size, 2, none⟩ = false := Lib.frozen_of_heap Q.out.rs 2
                  have HD := Lib.hid (QSt.doneP Q.out S.out hB)
                  clear Q S
                  go_wp2_with fail
                  refine bodyPost_ret (v := .tuple #[.agg #[.slice fa 0 fc, .slice ta ts.length tc, .int .i64 main], .bool false]) ?_ rfl ⟨_, _, ⟨[], ts, main⟩, false, rfl, HD.out.2.1, HD.out.2.2, HN.out, by nofun⟩
                  rw [results_cell_tmp (p := 2) (u := 3) (ty := 25) rfl]
                  simp [asAddr, run_loadVar_row _ _ _ _ _ _ _ HD.out.1 Tryz.underlying25 rfl prog_info, Result.andThen]
                · have hfp : 0 < fs.length := by omega
                  obtain ⟨fs0, f, rfl⟩ : ∃ fs0 f, fs = fs0 ++ [f] := by
                    rcases List.eq_nil_or_concat fs with h | ⟨a, b, h⟩
                    · exact absurd (by rw [h]; rfl) hf0
                    · exact ⟨a, b, by rw [h, List.concat_eq_append]⟩
                  obtain ⟨k0, hk0'⟩ : ∃ k0, fs0.length = k0 := ⟨_, rfl⟩
                  have hfl1 : (fs0 ++ [f]).length = k0 + 1 := by simp [hk0']
                  rw [hfl1] at hfl hfp hf0 Q S
                  have hcode := S.out.code f (by simp)
                  obtain ⟨ca, cc, hfv⟩ := owns_slice_n hcode
                  have hrow := isRow_owns S.out.fns
                  rw [hfl1] at hrow
                  obtain ⟨a', c', hv', hlc', hcell'⟩ := hrow
                  obtain ⟨fb, foff, rfl, hfb, hfc⟩ := hcell' (by omega)
                  have e1 := (Value.slice.inj hv').1
                  have e2 := (Value.slice.inj hv').2.2
                  subst e1 e2
                  have hoff : foff = 0 := by
                    rcases S.out.fns.2 with ⟨h, _⟩ | ⟨g, cap, cur, h, _⟩
                    · cases h
                    · have h2 := (Value.slice.inj h).1; simp at h2; exact h2.2
                  subst hoff
                  have hfe : funCells (fs0 ++ [f]) = funCells fs0 ++ [.int .i64 f.c, .int .i64 f.l, .int .i64 f.d, f.v] := funCells_app _ _
                  have c3 := hfc (k0 * 4 + 3) (by rw [funCells_length, hfl1]; omega)
                  rw [(funCells_at (fs0 ++ [f]) k0 (by omega)).2.2.2, show (fs0 ++ [f]).getD k0 default = f by subst hk0'; simp [List.getD]] at c3
                  rw [hfv, Nat.zero_add] at c3
                  have HR' : Hid (∀ cv, readT s.data.toList = foldT (decide (k + 1 = 0)) (strip ⟨fs0 ++ [⟨f.c, f.l, f.d, cv, f.code ++ [i]⟩], ts, main⟩) ((ps.drop (k + 1)).map dat)) := fun cv => by
                    rw [hk1]; exact foldT_some HRX'.out (by rw [hlp']; simp [stepT, strip, stripF])
                  obtain ⟨p0, p1, p2⟩ := ins_cells Q.out.pr
                  obtain ⟨i0, i1, i2⟩ := ins_cells hIc
                  have hfl2 : f.code.length ≤ k := hcl'.out f (by simp)
                  have hwr : IntKind.i64.wrap (((k0 + 1 : Nat) : Int) - 1) = (k0 : Int) := by rw [show ((k0 + 1 : Nat) : Int) - 1 = (k0 : Int) by omega]; exact wrap_ok _ (by omega) (by omega)
                  clear hfc hcell' hfe HRX' hlp hlp' hp7 hp4 c0
                  have ga : ∀ o, w4.grownBy (w4.alloc o) none := fun o => grown_alloc w4 o
                  have Hva : Hid (∀ a v, a.block < w4.heap.size → w4.cell? a = some v → (w4.alloc (.cells #[.int .i64 i.op, .int .i64 i.a, .int .i64 i.b] 64)).cell? a = some v) := fun a v ha h => (World.cell?_of_block (a := a) ((ga _).block a.block ha (by nofun))).trans h
                  have y1 := Hva.out _ _ hfb c3
                  have y2 : (w4.alloc (.cells #[.int .i64 i.op, .int .i64 i.a, .int .i64 i.b] 64)).drew.cell? ⟨fb, k0 * 4 + 3, none⟩ = some (.slice ca f.code.length cc) := y1
                  have y3 : (w4.drew.alloc (.cells #[.int .i64 i.op, .int .i64 i.a, .int .i64 i.b] 64)).cell? ⟨fb, k0 * 4 + 3, none⟩ = some (.slice ca f.code.length cc) := y1
                  have y0 : w4.drew.cell? ⟨fb, k0 * 4 + 3, none⟩ = some (.slice ca f.code.length cc) := c3
                  have j0 : w4.drew.cell? ⟨w3.heap.size, 0, none⟩ = some (.int .i64 i.op) := i0
                  have j1 : w4.drew.cell? ⟨w3.heap.size, 1, none⟩ = some (.int .i64 i.a) := i1
                  have j2 : w4.drew.cell? ⟨w3.heap.size, 2, none⟩ = some (.int .i64 i.b) := i2
                  have HC := Lib.hid hcode
                  have hffb := S.out.fns
                  have hfbl := (owns_lt hffb fb rfl).1
                  rw [hfl1] at hffb
                  have Hff := Lib.hid hffb
                  have hcapart : ∀ q, (Value.slice ca f.code.length cc).ownBlock = some q → q ≠ fb := fun q hq e => by subst e; exact owns_apart hcode S.out.fns (by decide) q (by rw [hfv]; exact hq) rfl
                  rw [hfv] at hcode
                  have HC4 := Lib.hid hcode
                  clear hcode ga hffb
                  go_upto_region 12 with fail
                  clear i0 i1 i2 c3 p0 p1 p2
                  go_region_law (
                   refine step_append_lies _ (by rfl) _ _ _ (by rfl) B 64 ii0 (.agg #[.int .i64 0, .int .i64 0, .int .i64 0]) 3 24 Tryz.underlying46 hii hiz0 hiz1 hiz2 (by rfl) (by decide) _ f.code.length (insCells f.code) (by rfl) (by first | exact HC4.out.alloc _ | exact (show w4.drew.ownsRow B 64 3 _ f.code.length (insCells f.code) from HC4.out).alloc _) ⟨w4.heap.size, 0, none⟩ 1 1 [.int .i64 i.op, .int .i64 i.a, .int .i64 i.b] (by rfl) (by rfl) (by first | exact World.news_of_block (cs := #[.int .i64 i.op, .int .i64 i.a, .int .i64 i.b]) (new_heap w4 _) | exact World.news_of_block (cs := #[.int .i64 i.op, .int .i64 i.a, .int .i64 i.b]) (new_heap w4.drew _)) (by intro u hu; simp at hu; rcases hu with rfl | rfl | rfl <;> rfl) (by decide) (by unfold maxLen; omega) (by omega) (by simp; omega) _ rfl ?_
                   intro g cap w7 hown7 hgrow7 hat7 hlt7
                   have hga := grown_alloc w4 (.cells #[.int .i64 i.op, .int .i64 i.a, .int .i64 i.b] 64)
                   have hgu : (w4.alloc (.cells #[.int .i64 i.op, .int .i64 i.a, .int .i64 i.b] 64)).grownBy w7 (Value.slice ca f.code.length cc).ownBlock := ⟨hgrow7.os, hgrow7.tape, hgrow7.output, hgrow7.size, hgrow7.block⟩
                   have Q7 := Lib.hid ((Q.out.grown hga (by nofun)).grown hgu (fun q hq => by have := (owns_lt HC4.out q hq).1; omega))
                   have S7 := Lib.hid ((S.out.grown hga (by nofun)).ins i rfl hk0' rfl hown7 (by rw [hfv]; exact hgu) (by rw [hfv]; exact hat7))
                   have C7 := Lib.hid (cells_grown (cells_grown C.out (by omega) hga (by nofun)) (by simp; omega) hgu (fun q hq => by have := (owns_lt HC4.out q hq).1; omega))
                   have hz7 : B ≤ w7.heap.size := (by have := hgu.size; simp at this; omega)
                   have hF7 := (hgu.block fb (by simp; omega) (fun e => hcapart _ e.symm rfl)).trans ((hga.block fb hfb (by nofun)))
                   have y7 : w7.cell? ⟨fb, k0 * 4 + 3, none⟩ = some (.slice ca f.code.length cc) := (World.cell?_of_block (a := ⟨fb, k0 * 4 + 3, none⟩) hF7).trans y0
                   have fp7 : w7.frozen? ⟨fb, k0 * 4 + 3, none⟩ = false := (by obtain ⟨cur, hcur⟩ := owns_type Hff.out fb rfl; exact Lib.frozen_of_heap (hF7.trans hcur) _)
                   clear hown7 hgrow7 hat7 hga hgu hF7)
                  all_goals
                    go_wp2_with fail
                    go_roundw
                  all_goals first
                    | exact ⟨k + 1, _, _, fs0 ++ [⟨f.c, f.l, f.d, .slice (some ⟨g, 0, none⟩) (f.code.length + 1) cap, f.code ++ [i]⟩], ts, main, by omega, by go_num, Lib.hid (Q7.out.grown (grown_set _ _ _ _) (fun z hz => by cases hz; omega)), S7, Lib.hid (cells_grown C7.out (by omega) (grown_set _ _ _ _) (fun z hz => by cases hz; omega)), Lib.hid (HR'.out _), by simp; omega, by omega, fun y hy => by rcases List.mem_append.1 hy with hy | hy; exact Nat.le_succ_of_le (hcl'.out y (List.mem_append_left _ hy)); (obtain rfl : y = _ := by simpa using hy); (simp; omega), by simp; omega⟩
                    | (simp [intOf]; omega)
      · obtain rfl : k = ps.length := by omega
        have HN : Hid (readT s.data.toList = some (strip ⟨fs, ts, main⟩)) := by show _ = _; rw [HRT.out, List.drop_length]; rfl
        clear HRT
        obtain ⟨p0, p1, p2⟩ := ins_cells Q.out.pr
        obtain ⟨z0, z1, z2⟩ := ins_cells Q.out.rs
        have fz0 : (V).frozen? ⟨w.heap.size, 0, none⟩ = false := Lib.frozen_of_heap Q.out.rs 0
        have fz1 : (V).frozen? ⟨w.heap.size, 1, none⟩ = false := Lib.frozen_of_heap Q.out.rs 1
        have fz2 : (V).frozen? ⟨w.heap.size, 2, none⟩ = false := Lib.frozen_of_heap Q.out.rs 2
        have HD := Lib.hid (QSt.doneP Q.out S.out hB)
        clear Q S
        go_wp2_with fail
        refine bodyPost_ret (v := .tuple #[.agg #[.slice fa fs.length fc, .slice ta ts.length tc, .int .i64 main], .bool true]) ?_ rfl ⟨_, _, ⟨fs, ts, main⟩, true, rfl, HD.out.2.1, HD.out.2.2, HN.out, fun _ => ⟨by show fs.length ≤ _; rw [hdl]; omega, by show ts.length ≤ _; rw [hdl]; omega⟩⟩
        rw [results_cell_tmp (p := 2) (u := 3) (ty := 25) rfl]
        simp [asAddr, run_loadVar_row _ _ _ _ _ _ _ HD.out.1 Tryz.underlying25 rfl prog_info, Result.andThen]
end Go.Proofs.YtidffjlpldalpaaGreatDoor
