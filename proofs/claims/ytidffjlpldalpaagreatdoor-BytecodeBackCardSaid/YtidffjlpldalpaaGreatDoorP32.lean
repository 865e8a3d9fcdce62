/- body of the reference: a program is read as the plain parser says. What Decode answers; checked. -/
import Derived.Test.YtidffjlpldalpaaGreatDoorP30
import Derived.Test.YtidffjlpldalpaaGreatDoorP16
import Derived.Test.YtidffjlpldalpaaGreatDoorP14
set_option linter.unusedVariables false
set_option linter.unusedSimpArgs false
namespace Go.Proofs.YtidffjlpldalpaaGreatDoor
open Go Go.RowKit


def blank (f : FunD) : FunD := ⟨f.c, f.l, f.d, undef, f.code⟩
def fill (f : FunS) : FunD := ⟨f.c, f.l, f.d, undef, f.code⟩
def validS (s : ProgS) : Bool := validB ⟨s.funs.map fill, s.texts, s.main⟩
theorem getD_blank (fs : List FunD) (k : Nat) : ((fs.map blank).getD k default).c = (fs.getD k default).c := by
  simp only [List.getD_eq_getElem?_getD, List.getElem?_map]
  cases fs[k]? <;> rfl
theorem rightI_blank (nt : Nat) (fs : List FunD) (c l : Int) (code : List Ins) (k : Nat) (i : Ins) : rightI nt (fs.map blank) c l code k i = rightI nt fs c l code k i := by
  unfold rightI; rw [List.length_map, getD_blank]
theorem all_map' {α β : Type} (l : List α) (g : α → β) (p : β → Bool) (q : α → Bool) (h : ∀ a, p (g a) = q a) : (l.map g).all p = l.all q := by
  induction l with
  | nil => rfl
  | cons x l ih => simp [ih, h]
theorem validB_blank (p : ProgD) : validB ⟨p.funs.map blank, p.texts, p.main⟩ = validB p := by
  unfold validB
  have e1 : (p.funs.map blank).all headB = p.funs.all headB := all_map' _ _ _ _ (fun _ => rfl)
  have e2 : (p.funs.map blank).all (rightsB ⟨p.funs.map blank, p.texts, p.main⟩) = p.funs.all (rightsB p) := all_map' _ _ _ _ (fun f => by
    unfold rightsB rightB
    simp only [blank]
    congr 1; funext k
    exact rightI_blank _ _ _ _ _ _ _)
  have e3 : mainB ⟨p.funs.map blank, p.texts, p.main⟩ = mainB p := by
    unfold mainB; simp only; rw [List.length_map, getD_blank]
  rw [e3]
  simp only [e1, e2, List.length_map]
theorem validS_strip (p : ProgD) : validS (strip p) = validB p := by
  rw [← validB_blank p]
  unfold validS strip
  simp only [List.map_map]
  rfl
def zeroS : ProgS := ⟨[], [], 0⟩
def chkT (ok : Bool) (s : ProgS) : ProgS × Int := if ok = true then (if validS s = true then (s, 0) else (zeroS, 1)) else (zeroS, 3)
/-- What Decode answers. -/
def decT (l : List Int) : ProgS × Int :=
  if l.length < 2 then (zeroS, 4)
  else if sumK l (l.length - 2) ≠ l.getD (l.length - 2) 0 * 256 + l.getD (l.length - 2 + 1) 0 then (zeroS, 29)
  else match pBody (l.take (l.length - 2)) with
    | none => chkT false zeroS
    | some s => chkT true s
def AnsOk (t : ProgS × Int) (w : World) (e : Ending) (w' : World) : Prop :=
  ∃ fv tv p err, e = .returned (.tuple #[.agg #[fv, tv, .int .i64 p.main], .int .i64 err]) ∧ Below w.heap.size w w' ∧ IsProg w' fv tv p ∧ (strip p, err) = t
theorem pTexts_count : ∀ (m : Nat) (l : List Int) (ts : List ByteArray) (l' : List Int), pTexts m l = some (ts, l') → ts.length = m
  | 0, l, ts, l', h => by simp only [pTexts, Option.some.injEq, Prod.mk.injEq] at h; rw [← h.1]; rfl
  | m + 1, l, ts, l', h => by
    rw [pTexts] at h
    split at h
    · cases h
    · rename_i s l1 hr
      split at h
      · cases h
      · rename_i ts' l2 hr2
        have h2 := pTexts_count m l1 ts' l2 hr2
        simp only [Option.some.injEq, Prod.mk.injEq] at h
        rw [← h.1]; simp [h2]
theorem pCode_count : ∀ (m : Nat) (l : List Int) (is : List Ins) (l' : List Int), pCode m l = some (is, l') → is.length = m
  | 0, l, is, l', h => by simp only [pCode, Option.some.injEq, Prod.mk.injEq] at h; rw [← h.1]; rfl
  | m + 1, l, is, l', h => by
    rw [pCode] at h
    split at h
    · cases h
    · rename_i i l1 hr
      split at h
      · cases h
      · rename_i is' l2 hr2
        have h2 := pCode_count m l1 is' l2 hr2
        simp only [Option.some.injEq, Prod.mk.injEq] at h
        rw [← h.1]; simp [h2]
theorem pFun_code (l : List Int) (f : FunS) (l' : List Int) (h : pFun l = some (f, l')) : f.code.length ≤ l.length := by
  unfold pFun at h
  split at h
  · cases h
  · rename_i c l1 hr
    have h1 := readN_len _ _ _ hr
    split at h
    · cases h
    · rename_i lc l2 hr2
      have h2 := readN_len _ _ _ hr2
      split at h
      · cases h
      · rename_i d l3 hr3
        have h3 := readN_len _ _ _ hr3
        split at h
        · cases h
        · rename_i n l4 hr4
          have h4 := readC_len _ _ _ hr4
          split at h
          · cases h
          · rename_i is l5 hr5
            have h5 := pCode_len _ _ _ _ hr5
            have h6 := pCode_count _ _ _ _ hr5
            simp only [Option.some.injEq, Prod.mk.injEq] at h
            rw [← h.1]; simp only; omega
theorem pFuns_count : ∀ (m : Nat) (l : List Int) (fs : List FunS) (l' : List Int), pFuns m l = some (fs, l') → fs.length = m ∧ ∀ f ∈ fs, f.code.length ≤ l.length
  | 0, l, fs, l', h => by simp only [pFuns, Option.some.injEq, Prod.mk.injEq] at h; rw [← h.1]; exact ⟨rfl, fun f hf => by cases hf⟩
  | m + 1, l, fs, l', h => by
    rw [pFuns] at h
    split at h
    · cases h
    · rename_i f l1 hr
      have h1 := pFun_len _ _ _ hr
      have h0 := pFun_code _ _ _ hr
      split at h
      · cases h
      · rename_i fs' l2 hr2
        have h2 := pFuns_count m l1 fs' l2 hr2
        simp only [Option.some.injEq, Prod.mk.injEq] at h
        rw [← h.1]
        refine ⟨by simp [h2.1], fun g hg => ?_⟩
        rcases List.mem_cons.1 hg with rfl | hg
        · exact h0
        · have := h2.2 g hg; omega
theorem pBody_sizes (l : List Int) (s : ProgS) (h : pBody l = some s) : s.funs.length ≤ l.length ∧ s.texts.length ≤ l.length ∧ ∀ f ∈ s.funs, f.code.length ≤ l.length := by
  unfold pBody at h
  split at h
  · cases h
  · rename_i main l1 hr
    have h1 := readN_len _ _ _ hr
    split at h
    · cases h
    · rename_i nt l2 hr2
      have h2 := readC_len _ _ _ hr2
      split at h
      · cases h
      · rename_i ts l3 hr3
        have h3 := pTexts_len _ _ _ _ hr3
        have h3' := pTexts_count _ _ _ _ hr3
        split at h
        · cases h
        · rename_i nf l4 hr4
          have h4 := readC_len _ _ _ hr4
          split at h
          · cases h
          · rename_i fs l5 hr5
            have h5 := pFuns_len _ _ _ _ hr5
            have h5' := pFuns_count _ _ _ _ hr5
            split at h
            · cases h
              refine ⟨by simp only; omega, by simp only; omega, fun f hf => ?_⟩
              have := h5'.2 f hf; omega
            · cases h
theorem strip_sizes (p : ProgD) (n : Nat) (h : (strip p).funs.length ≤ n ∧ (strip p).texts.length ≤ n ∧ ∀ f ∈ (strip p).funs, f.code.length ≤ n) : p.funs.length ≤ n ∧ p.texts.length ≤ n ∧ ∀ f ∈ p.funs, f.code.length ≤ n := by
  obtain ⟨h1, h2, h3⟩ := h
  refine ⟨by simpa [strip] using h1, h2, fun f hf => ?_⟩
  exact h3 (stripF f) (List.mem_map.2 ⟨f, hf, rfl⟩)
theorem isProg_zero (w : World) : IsProg w (.slice none 0 0) (.slice none 0 0) ⟨[], [], 0⟩ := ⟨⟨isRow_nil w, fun f hf => by cases hf⟩, isRow_nil w⟩
theorem chk_bad (s : ProgS) (h : validS s = false) : chkT true s = (zeroS, 1) := by unfold chkT; rw [h]; rfl
theorem chk_ok (s : ProgS) (h : validS s = true) : chkT true s = (s, 0) := by unfold chkT; rw [h]; rfl
theorem set3 {V : World} {R : Nat} {x y z : Value} (h : V.heap[R]? = some (.cells #[x, y, z] 25 (0, 0))) (a b c : Value) : (((V.setCell ⟨R, 0, none⟩ a).setCell ⟨R, 1, none⟩ b).setCell ⟨R, 2, none⟩ c).heap[R]? = some (.cells #[a, b, c] 25 (0, 0)) ∧ V.grownBy (((V.setCell ⟨R, 0, none⟩ a).setCell ⟨R, 1, none⟩ b).setCell ⟨R, 2, none⟩ c) (some R) :=
  ⟨heap_set_same (heap_set_same (heap_set_same h _) _) _, grown_both (grown_both (grown_set V R 0 a) (grown_set _ R 1 b)) (grown_set _ R 2 c)⟩
set_option maxHeartbeats 1000000 in
set_option maxRecDepth 100000 in
theorem checked_any (fv tv : Value) (p : ProgD) (ok : Bool) (w : World) (h : IsProg w fv tv p) (hz : ok = true → p.funs.length ≤ 1000000 ∧ p.texts.length ≤ 1000000) :
    Calls Tryz.prog 39 #[.agg #[fv, tv, .int .i64 p.main], .bool ok] w (AnsOk (chkT ok (strip p)) w) := by
  have Hp := Lib.hid h
  obtain ⟨⟨⟨fa, fc, rfl, hfc, _⟩, _⟩, ⟨ta, tc, rfl, htc, _⟩⟩ := h
  have hb0 : Below w.heap.size w ((w.alloc (.cells #[.slice fa p.funs.length fc, .slice ta p.texts.length tc, .int .i64 p.main] 25)).alloc (.cells #[.slice none 0 0, .slice none 0 0, .int .i64 0] 25)) := ((Below.refl _ _).alloc (Nat.le_refl _) _).alloc (by simp) _
  have gA : ((w.alloc (.cells #[.slice fa p.funs.length fc, .slice ta p.texts.length tc, .int .i64 p.main] 25)).alloc (.cells #[.slice none 0 0, .slice none 0 0, .int .i64 0] 25)).heap[w.heap.size]? = some (.cells #[.slice fa p.funs.length fc, .slice ta p.texts.length tc, .int .i64 p.main] 25 (0, 0)) := (Below.heap_alloc _ _ _ (by simp)).trans (new_heap w _)
  have gB : ((w.alloc (.cells #[.slice fa p.funs.length fc, .slice ta p.texts.length tc, .int .i64 p.main] 25)).alloc (.cells #[.slice none 0 0, .slice none 0 0, .int .i64 0] 25)).heap[w.heap.size + 1]? = some (.cells #[.slice none 0 0, .slice none 0 0, .int .i64 0] 25 (0, 0)) := (congrArg _ (by simp)).trans (new_heap (w.alloc _) _)
  have Hz := Lib.hid hz
  clear hz
  go_enter Tryz.func39, Tryz.ntmps39
  have hwW : w.heap.size + 1 < ((w.alloc (.cells #[.slice fa p.funs.length fc, .slice ta p.texts.length tc, .int .i64 p.main] 25)).alloc (.cells #[.slice none 0 0, .slice none 0 0, .int .i64 0] 25)).heap.size := heap_lt gB
  go_upto_region 1 with fail
  generalize ((w.alloc (.cells #[.slice fa p.funs.length fc, .slice ta p.texts.length tc, .int .i64 p.main] 25)).alloc (.cells #[.slice none 0 0, .slice none 0 0, .int .i64 0] 25)) = W at *
  cases ok
  · obtain ⟨z0, z1, z2⟩ := ins_cells gB
    have fz0 : W.frozen? ⟨w.heap.size + 1, 0, none⟩ = false := Lib.frozen_of_heap gB 0
    have fz1 : W.frozen? ⟨w.heap.size + 1, 1, none⟩ = false := Lib.frozen_of_heap gB 1
    have fz2 : W.frozen? ⟨w.heap.size + 1, 2, none⟩ = false := Lib.frozen_of_heap gB 2
    obtain ⟨hr, hg⟩ := set3 gB (.slice none 0 0) (.slice none 0 0) (.int .i64 0)
    have hbe := hb0.trans (grown_under hg (by omega) (fun k hk => by cases hk; omega))
    have HBE := Lib.hid hbe
    have HR := Lib.hid hr
    clear hr hg hbe
    go_wp2_with fail
    refine bodyPost_ret (v := .tuple #[zeroP, .int .i64 3]) ?_ rfl ⟨_, _, ⟨[], [], 0⟩, 3, rfl, HBE.out, isProg_zero _, rfl⟩
    rw [results_cell_tmp (p := 4) (u := 5) (ty := 25) rfl]
    simp [asAddr, run_loadVar_row _ _ _ _ _ _ _ HR.out Tryz.underlying25 rfl prog_info, Result.andThen, zeroP]
  · obtain ⟨hz1, hz2⟩ := Hz.out rfl
    obtain ⟨p0, p1, p2⟩ := ins_cells gA
    have HV := Lib.hid (valid_any _ _ p W (Hp.out.below hb0) hz1 hz2 (fun s _ => quoted_any s))
    clear hz1 hz2
    go_wp2_with fail
    refine HV.out.mono ?_
    rintro e V ⟨rfl, hbV⟩
    have gA2 := (hbV.block _ (by omega)).trans gA
    have gB2 := (hbV.block _ (by omega)).trans gB
    have hb2 := hb0.trans (hbV.mono hb0.size)
    have hVV : w.heap.size + 1 < V.heap.size := heap_lt gB2
    have hpV := Hp.out.below hb2
    clear gA gB hb0 hwW hbV HV p0 p1 p2
    obtain ⟨p0, p1, p2⟩ := ins_cells gA2
    obtain ⟨z0, z1, z2⟩ := ins_cells gB2
    have fz0 : V.frozen? ⟨w.heap.size + 1, 0, none⟩ = false := Lib.frozen_of_heap gB2 0
    have fz1 : V.frozen? ⟨w.heap.size + 1, 1, none⟩ = false := Lib.frozen_of_heap gB2 1
    have fz2 : V.frozen? ⟨w.heap.size + 1, 2, none⟩ = false := Lib.frozen_of_heap gB2 2
    obtain ⟨q, hq⟩ : ∃ q, validB p = q := ⟨_, rfl⟩
    have Hq := Lib.hid hq
    rw [hq]
    clear hq
    cases q
    · obtain ⟨hr, hg⟩ := set3 gB2 (.slice none 0 0) (.slice none 0 0) (.int .i64 0)
      have HBE := Lib.hid (hb2.trans (grown_under hg (by omega) (fun k hk => by cases hk; omega)))
      have HR := Lib.hid hr
      clear hr hg
      go_wp2_with fail
      refine bodyPost_ret (v := .tuple #[zeroP, .int .i64 1]) ?_ rfl ⟨_, _, ⟨[], [], 0⟩, 1, rfl, HBE.out, isProg_zero _, (chk_bad _ ((validS_strip p).trans Hq.out)).symm⟩
      rw [results_cell_tmp (p := 4) (u := 5) (ty := 25) rfl]
      simp [asAddr, run_loadVar_row _ _ _ _ _ _ _ HR.out Tryz.underlying25 rfl prog_info, Result.andThen, zeroP]
    · obtain ⟨hr, hg⟩ := set3 gB2 (.slice fa p.funs.length fc) (.slice ta p.texts.length tc) (.int .i64 p.main)
      have hbn := grown_under (B := w.heap.size) hg (by omega) (fun k hk => by cases hk; omega)
      have HBE := Lib.hid (hb2.trans hbn)
      have HPE := Lib.hid (Hp.out.below HBE.out)
      have HR := Lib.hid hr
      clear hr hg hbn
      go_wp2_with fail
      refine bodyPost_ret (v := .tuple #[.agg #[.slice fa p.funs.length fc, .slice ta p.texts.length tc, .int .i64 p.main], .int .i64 0]) ?_ rfl ⟨_, _, p, 0, rfl, HBE.out, HPE.out, (chk_ok _ ((validS_strip p).trans Hq.out)).symm⟩
      rw [results_cell_tmp (p := 4) (u := 5) (ty := 25) rfl]
      simp [asAddr, run_loadVar_row _ _ _ _ _ _ _ HR.out Tryz.underlying25 rfl prog_info, Result.andThen]
end Go.Proofs.YtidffjlpldalpaaGreatDoor
