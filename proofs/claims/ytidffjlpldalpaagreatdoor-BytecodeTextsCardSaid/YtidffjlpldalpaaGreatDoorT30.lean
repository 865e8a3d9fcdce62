/- The reference's lines. body of the reference: a program is read as the plain parser says. What Decode answers; checked. Codes of programs: what is encoded is decoded, and what is decoded was so encoded. -/
import Derived.Test.YtidffjlpldalpaaGreatDoorT27
import Derived.Test.YtidffjlpldalpaaGreatDoorT29
import Derived.Test.YtidffjlpldalpaaGreatDoorT28
import Derived.Test.YtidffjlpldalpaaGreatDoorT16
import Derived.Test.YtidffjlpldalpaaGreatDoorT14
set_option linter.unusedVariables false
set_option linter.unusedSimpArgs false
namespace Go.Proofs.YtidffjlpldalpaaGreatDoor
open Go Go.RowKit

abbrev nlS (ls : List ByteArray) : List UInt8 := ls.flatMap fun x => x.data.toList ++ [10]
def LinesR (s : ByteArray) (w : World) (e : Ending) (w' : World) : Prop :=
  ∃ v ls ok, e = .returned (.tuple #[v, .bool ok]) ∧ Below w.heap.size w w' ∧ w'.ownsRow w.heap.size 9 1 v ls.length (strCells ls) ∧ ls.length ≤ s.size ∧ (∀ x ∈ ls, x.size ≤ s.size ∧ (10 : UInt8) ∉ x.data.toList) ∧ (ok = true → s.data.toList = nlS ls) ∧ (ok = false → ¬ s.data.toList.getLast? = some 10)
theorem nlS_snoc (ls : List ByteArray) (x : ByteArray) : nlS (ls ++ [x]) = nlS ls ++ (x.data.toList ++ [10]) := by simp [nlS, List.flatMap_append]
theorem ext_mid (s : ByteArray) (a b : Nat) : (s.extract a b).data.toList = (s.data.toList.drop a).take (b - a) := by
  rw [ByteArray.data_extract, Array.toList_extract, List.extract_eq_take_drop]
theorem mid_next (s : ByteArray) (a k : Nat) (h : k < s.size) (hak : a ≤ k) : (s.data.toList.drop a).take (k + 1 - a) = (s.data.toList.drop a).take (k - a) ++ [s[k]] := by
  have hk : k - a < (s.data.toList.drop a).length := by rw [List.length_drop, data_len]; omega
  rw [show k + 1 - a = (k - a) + 1 by omega, List.take_succ_eq_append_getElem hk]
  congr 2
  simp [List.getElem_drop, show a + (k - a) = k by omega, ByteArray.getElem_eq_getElem_data]
theorem take_mid (s : ByteArray) (a k : Nat) (hak : a ≤ k) : s.data.toList.take k = s.data.toList.take a ++ (s.data.toList.drop a).take (k - a) := by
  rw [show k = a + (k - a) by omega, List.take_add, show a + (k - a) - a = k - a by omega]
theorem no_last (l : List UInt8) (a : Nat) (ha : a < l.length) (h : (10 : UInt8) ∉ l.drop a) : ¬ l.getLast? = some 10 := fun e => by
  apply h
  have : (l.drop a).getLast? = some 10 := by rw [List.getLast?_drop, if_neg (by omega)]; exact e
  exact List.mem_of_getLast? this
set_option maxHeartbeats 2000000 in
set_option maxRecDepth 100000 in
theorem rlines_any (s : ByteArray) (w : World) (hs : s.size ≤ 1000000) :
    Calls Tryz.prog 41 #[.string s] w (LinesR s w) := by
  obtain ⟨is0, his, hsz0, hsz1, hsz2⟩ := info_parts info_str
  have Hl := Lib.hid (data_len s)
  go_enter Tryz.func41, Tryz.ntmps41
  go_wp2_with fail
  go_loopw [4, 5, 6] (fun o f i wr => ∃ (a k : Nat) (ls : List ByteArray), a ≤ k ∧ k ≤ s.size ∧ f = .int .i64 a ∧ i = .int .i64 k ∧ Hid (s.data.toList.take a = nlS ls) ∧ Hid ((10 : UInt8) ∉ (s.data.toList.drop a).take (k - a)) ∧ ls.length ≤ a ∧ Hid (∀ x ∈ ls, x.size ≤ s.size ∧ (10 : UInt8) ∉ x.data.toList) ∧ Hid (wr.ownsRow w.heap.size 9 1 o ls.length (strCells ls)) ∧ Below w.heap.size w wr) (fun _ _ i _ => s.size - (intOf i).toNat)
  case atStart => exact ⟨0, 0, [], Nat.le_refl _, Nat.zero_le _, rfl, rfl, rfl, (by show _ ∉ _; simp), Nat.le_refl _, (fun x hx => by cases hx), ⟨rfl, .inl ⟨rfl, rfl⟩⟩, Below.refl _ _⟩
  case round =>
    rename World => V
    obtain ⟨a, k, ls, hak, hk, rfl, rfl, HT, HM, hla, HX, HO, hbr⟩ := hrel
    obtain ⟨oa, om, oc, rfl⟩ := owns_slice HO.out
    have hVz := hbr.size
    by_cases hlt : k < s.size
    · obtain ⟨u0, u1⟩ := ub s[k]
      have hmid := mid_next s a k hlt hak
      by_cases h10 : s[k] = 10
      · have q10 : (s[k].toNat : Int) = 10 := by rw [h10]; rfl
        have hx := ext_mid s a k
        have hez : (s.extract a k).size = k - a := by simp; omega
        have HT2 : Hid (s.data.toList.take (k + 1) = nlS (ls ++ [s.extract a k])) := by
          show _ = _
          rw [nlS_snoc, ← HT.out, hx, take_mid s a (k + 1) (by omega), hmid, h10]
        have HX2 : Hid (∀ x ∈ ls ++ [s.extract a k], x.size ≤ s.size ∧ (10 : UInt8) ∉ x.data.toList) := by
          intro x hxm
          rcases List.mem_append.1 hxm with hxm | hxm
          · exact HX.out x hxm
          · obtain rfl : x = _ := by simpa using hxm
            exact ⟨by omega, by rw [hx]; exact HM.out⟩
        clear HT HX HM hmid hx h10
        generalize hxx : s.extract a k = x at *
        have hxx' := Lib.hid hxx
        go_wp2_with (at_builtin; refine wpList_append_lies _ rfl _ _ 23 rfl w.heap.size 9 is0 (.string ByteArray.empty) 1 16 Tryz.underlying23 his hsz0 hsz1 hsz2 rfl (by decide) _ ls.length (strCells ls) rfl (HO.out.alloc _) ⟨V.heap.size, 0, none⟩ 1 1 [.string x] rfl rfl ?c1 ?c2 (by decide) ?c3 ?c4 ?c5 _ rfl ?_)
        case c1 => exact cell_one_new _ _ _
        case c2 => intro u hu; simp at hu; subst hu; rfl
        case c3 => unfold maxLen; omega
        case c4 => omega
        case c5 => simp; omega
        intro g cap w7 hown7 hgrow7 hat7 hlt7
        have hbr7 := (hbr.trans ((grown_under (grown_alloc V (.cells #[.string x] 9)) (Nat.le_refl _) (by nofun)).mono hVz)).trans (grown_under hgrow7 (by simp; omega) (fun q hq => (owns_lt HO.out q hq).1))
        have HO7 : Hid (w7.ownsRow w.heap.size 9 1 (.slice (some ⟨g, 0, none⟩) (ls.length + 1) cap) (ls ++ [x]).length (strCells (ls ++ [x]))) := by
          show World.ownsRow _ _ _ _ _ _ _
          rw [show (ls ++ [x]).length = ls.length + 1 by simp, show strCells (ls ++ [x]) = strCells ls ++ [.string x] by simp [strCells]]; exact hown7
        clear hown7 hgrow7 hat7 HO
        go_wp2_with fail
        go_round
        case rel => exact ⟨k + 1, k + 1, ls ++ [x], by omega, by omega, by go_num, by go_num, HT2, by show _ ∉ _; simp, by simp; omega, HX2, HO7, hbr7⟩
        case measure => simp [intOf]; omega
      · have e10 : ((s[k].toNat : Int) == 10) = false := u8_ne s[k] 10 (by decide) h10
        have HM2 : Hid ((10 : UInt8) ∉ (s.data.toList.drop a).take (k + 1 - a)) := by
          show _ ∉ _
          rw [hmid]
          intro hm
          rcases List.mem_append.1 hm with hm | hm
          · exact HM.out hm
          · exact h10 (by simpa using hm : (10 : UInt8) = s[k]).symm
        clear hmid HM h10
        go_wp2_with fail
        go_round
        case rel => exact ⟨a, k + 1, ls, by omega, by omega, rfl, by go_num, HT, HM2, hla, HX, HO, hbr⟩
        case measure => simp [intOf]; omega
    · obtain rfl : k = s.size := by omega
      have hM := HM.out
      rw [List.take_of_length_le (by rw [List.length_drop, data_len]; exact Nat.le_refl _)] at hM
      by_cases has : a = s.size
      · subst has
        have hT := HT.out
        rw [List.take_of_length_le (by rw [data_len]; exact Nat.le_refl _)] at hT
        have HT2 := Lib.hid hT
        clear hT hM HT HM
        go_wp2_with fail
        go_ret2
        exact ⟨_, ls, true, by simp, hbr, HO.out, hla, HX.out, fun _ => HT2.out, by nofun⟩
      · have hae : ((a : Int) == (s.size : Int)) = false := beq_eq_false_iff_ne.2 (by omega)
        have HE := Lib.hid (no_last _ a (by rw [data_len]; omega) hM)
        clear hM HT HM
        go_wp2_with fail
        go_ret2
        exact ⟨_, ls, false, rfl, hbr, HO.out, by omega, HX.out, by nofun, fun _ => HE.out⟩
/-- What the lines say of the text's reading. -/
theorem readT_lines {l : List UInt8} {ls : List ByteArray} (h : l = nlS ls) (hx : ∀ x ∈ ls, (10 : UInt8) ∉ x.data.toList) (hne : ls ≠ []) : readT l = foldT true ⟨[], [], 0⟩ (ls.map fun x => x.data.toList) := by
  obtain ⟨x, r, rfl⟩ : ∃ x r, ls = x :: r := by
    cases ls with
    | nil => exact absurd rfl hne
    | cons x r => exact ⟨x, r, rfl⟩
  have e : nlS (x :: r) = ((x :: r).map fun x : ByteArray => x.data.toList).flatMap fun y => y ++ [10] := by simp [nlS, List.flatMap_map]
  rw [e] at h
  simp only [List.map_cons] at h ⊢
  rw [h, readT_yes _ (last_nl _ _), drop_nl, spl_of 10 _ _ (hx x (by simp)) (fun y hy => by
    obtain ⟨z, hz, rfl⟩ := List.mem_map.1 hy
    exact hx z (by simp [hz]))]


def blank (f : FunD) : FunD := ⟨f.c, f.l, f.d, undef, f.code⟩
def fill (f : FunS) : FunD := ⟨f.c, f.l, f.d, undef, f.code⟩
def validS (s : ProgS) : Bool := validB ⟨s.funs.map fill, s.texts, s.main⟩
theorem getD_blank (fs : List FunD) (k : Nat) : ((fs.map blank).getD k default).c = (fs.getD k default).c := by
  simp only [List.getD_eq_getElem?_getD, List.getElem?_map]
  cases fs[k]? <;> rfl
theorem rightI_blank (nt : Nat) (fs : List FunD) (c l : Int) (code : List Ins) (k : Nat) (i : Ins) : rightI nt (fs.map blank) c l code k i = rightI nt fs c l code k i := by
  unfold rightI; rw [List.length_map, getD_blank]
theorem all_map' {α β : Type} (l : List α) (g : α → β) (p : β → Bool) (q : α → Bool) (h : ∀ a, p (g a) = q a) : (l.map g).all p = l.all q := by
  induction l with
  | nil => rfl
  | cons x l ih => simp [ih, h]
theorem validB_blank (p : ProgD) : validB ⟨p.funs.map blank, p.texts, p.main⟩ = validB p := by
  unfold validB
  have e1 : (p.funs.map blank).all headB = p.funs.all headB := all_map' _ _ _ _ (fun _ => rfl)
  have e2 : (p.funs.map blank).all (rightsB ⟨p.funs.map blank, p.texts, p.main⟩) = p.funs.all (rightsB p) := all_map' _ _ _ _ (fun f => by
    unfold rightsB rightB
    simp only [blank]
    congr 1; funext k
    exact rightI_blank _ _ _ _ _ _ _)
  have e3 : mainB ⟨p.funs.map blank, p.texts, p.main⟩ = mainB p := by
    unfold mainB; simp only; rw [List.length_map, getD_blank]
  rw [e3]
  simp only [e1, e2, List.length_map]
theorem validS_strip (p : ProgD) : validS (strip p) = validB p := by
  rw [← validB_blank p]
  unfold validS strip
  simp only [List.map_map]
  rfl
def zeroS : ProgS := ⟨[], [], 0⟩
def chkT (ok : Bool) (s : ProgS) : ProgS × Int := if ok = true then (if validS s = true then (s, 0) else (zeroS, 1)) else (zeroS, 3)
def AnsOk (t : ProgS × Int) (w : World) (e : Ending) (w' : World) : Prop :=
  ∃ fv tv p err, e = .returned (.tuple #[.agg #[fv, tv, .int .i64 p.main], .int .i64 err]) ∧ Below w.heap.size w w' ∧ IsProg w' fv tv p ∧ (strip p, err) = t
theorem strip_sizes (p : ProgD) (n : Nat) (h : (strip p).funs.length ≤ n ∧ (strip p).texts.length ≤ n ∧ ∀ f ∈ (strip p).funs, f.code.length ≤ n) : p.funs.length ≤ n ∧ p.texts.length ≤ n ∧ ∀ f ∈ p.funs, f.code.length ≤ n := by
  obtain ⟨h1, h2, h3⟩ := h
  refine ⟨by simpa [strip] using h1, h2, fun f hf => ?_⟩
  exact h3 (stripF f) (List.mem_map.2 ⟨f, hf, rfl⟩)
theorem isProg_zero (w : World) : IsProg w (.slice none 0 0) (.slice none 0 0) ⟨[], [], 0⟩ := ⟨⟨isRow_nil w, fun f hf => by cases hf⟩, isRow_nil w⟩
theorem chk_bad (s : ProgS) (h : validS s = false) : chkT true s = (zeroS, 1) := by unfold chkT; rw [h]; rfl
theorem chk_ok (s : ProgS) (h : validS s = true) : chkT true s = (s, 0) := by unfold chkT; rw [h]; rfl
theorem set3 {V : World} {R : Nat} {x y z : Value} (h : V.heap[R]? = some (.cells #[x, y, z] 25 (0, 0))) (a b c : Value) : (((V.setCell ⟨R, 0, none⟩ a).setCell ⟨R, 1, none⟩ b).setCell ⟨R, 2, none⟩ c).heap[R]? = some (.cells #[a, b, c] 25 (0, 0)) ∧ V.grownBy (((V.setCell ⟨R, 0, none⟩ a).setCell ⟨R, 1, none⟩ b).setCell ⟨R, 2, none⟩ c) (some R) :=
  ⟨heap_set_same (heap_set_same (heap_set_same h _) _) _, grown_both (grown_both (grown_set V R 0 a) (grown_set _ R 1 b)) (grown_set _ R 2 c)⟩
set_option maxHeartbeats 1000000 in
set_option maxRecDepth 100000 in
theorem checked_any (fv tv : Value) (p : ProgD) (ok : Bool) (w : World) (h : IsProg w fv tv p) (hz : ok = true → p.funs.length ≤ 1000000 ∧ p.texts.length ≤ 1000000) :
    Calls Tryz.prog 39 #[.agg #[fv, tv, .int .i64 p.main], .bool ok] w (AnsOk (chkT ok (strip p)) w) := by
  have Hp := Lib.hid h
  obtain ⟨⟨⟨fa, fc, rfl, hfc, _⟩, _⟩, ⟨ta, tc, rfl, htc, _⟩⟩ := h
  have hb0 : Below w.heap.size w ((w.alloc (.cells #[.slice fa p.funs.length fc, .slice ta p.texts.length tc, .int .i64 p.main] 25)).alloc (.cells #[.slice none 0 0, .slice none 0 0, .int .i64 0] 25)) := ((Below.refl _ _).alloc (Nat.le_refl _) _).alloc (by simp) _
  have gA : ((w.alloc (.cells #[.slice fa p.funs.length fc, .slice ta p.texts.length tc, .int .i64 p.main] 25)).alloc (.cells #[.slice none 0 0, .slice none 0 0, .int .i64 0] 25)).heap[w.heap.size]? = some (.cells #[.slice fa p.funs.length fc, .slice ta p.texts.length tc, .int .i64 p.main] 25 (0, 0)) := (Below.heap_alloc _ _ _ (by simp)).trans (new_heap w _)
  have gB : ((w.alloc (.cells #[.slice fa p.funs.length fc, .slice ta p.texts.length tc, .int .i64 p.main] 25)).alloc (.cells #[.slice none 0 0, .slice none 0 0, .int .i64 0] 25)).heap[w.heap.size + 1]? = some (.cells #[.slice none 0 0, .slice none 0 0, .int .i64 0] 25 (0, 0)) := (congrArg _ (by simp)).trans (new_heap (w.alloc _) _)
  have Hz := Lib.hid hz
  clear hz
  go_enter Tryz.func39, Tryz.ntmps39
  have hwW : w.heap.size + 1 < ((w.alloc (.cells #[.slice fa p.funs.length fc, .slice ta p.texts.length tc, .int .i64 p.main] 25)).alloc (.cells #[.slice none 0 0, .slice none 0 0, .int .i64 0] 25)).heap.size := heap_lt gB
  go_upto_region 1 with fail
  generalize ((w.alloc (.cells #[.slice fa p.funs.length fc, .slice ta p.texts.length tc, .int .i64 p.main] 25)).alloc (.cells #[.slice none 0 0, .slice none 0 0, .int .i64 0] 25)) = W at *
  cases ok
  · obtain ⟨z0, z1, z2⟩ := ins_cells gB
    have fz0 : W.frozen? ⟨w.heap.size + 1, 0, none⟩ = false := Lib.frozen_of_heap gB 0
    have fz1 : W.frozen? ⟨w.heap.size + 1, 1, none⟩ = false := Lib.frozen_of_heap gB 1
    have fz2 : W.frozen? ⟨w.heap.size + 1, 2, none⟩ = false := Lib.frozen_of_heap gB 2
    obtain ⟨hr, hg⟩ := set3 gB (.slice none 0 0) (.slice none 0 0) (.int .i64 0)
    have hbe := hb0.trans (grown_under hg (by omega) (fun k hk => by cases hk; omega))
    have HBE := Lib.hid hbe
    have HR := Lib.hid hr
    clear hr hg hbe
    go_wp2_with fail
    refine bodyPost_ret (v := .tuple #[zeroP, .int .i64 3]) ?_ rfl ⟨_, _, ⟨[], [], 0⟩, 3, rfl, HBE.out, isProg_zero _, rfl⟩
    rw [results_cell_tmp (p := 4) (u := 5) (ty := 25) rfl]
    simp [asAddr, run_loadVar_row _ _ _ _ _ _ _ HR.out Tryz.underlying25 rfl prog_info, Result.andThen, zeroP]
  · obtain ⟨hz1, hz2⟩ := Hz.out rfl
    obtain ⟨p0, p1, p2⟩ := ins_cells gA
    have HV := Lib.hid (valid_any _ _ p W (Hp.out.below hb0) hz1 hz2 (fun s _ => quoted_any s))
    clear hz1 hz2
    go_wp2_with fail
    refine HV.out.mono ?_
    rintro e V ⟨rfl, hbV⟩
    have gA2 := (hbV.block _ (by omega)).trans gA
    have gB2 := (hbV.block _ (by omega)).trans gB
    have hb2 := hb0.trans (hbV.mono hb0.size)
    have hVV : w.heap.size + 1 < V.heap.size := heap_lt gB2
    have hpV := Hp.out.below hb2
    clear gA gB hb0 hwW hbV HV p0 p1 p2
    obtain ⟨p0, p1, p2⟩ := ins_cells gA2
    obtain ⟨z0, z1, z2⟩ := ins_cells gB2
    have fz0 : V.frozen? ⟨w.heap.size + 1, 0, none⟩ = false := Lib.frozen_of_heap gB2 0
    have fz1 : V.frozen? ⟨w.heap.size + 1, 1, none⟩ = false := Lib.frozen_of_heap gB2 1
    have fz2 : V.frozen? ⟨w.heap.size + 1, 2, none⟩ = false := Lib.frozen_of_heap gB2 2
    obtain ⟨q, hq⟩ : ∃ q, validB p = q := ⟨_, rfl⟩
    have Hq := Lib.hid hq
    rw [hq]
    clear hq
    cases q
    · obtain ⟨hr, hg⟩ := set3 gB2 (.slice none 0 0) (.slice none 0 0) (.int .i64 0)
      have HBE := Lib.hid (hb2.trans (grown_under hg (by omega) (fun k hk => by cases hk; omega)))
      have HR := Lib.hid hr
      clear hr hg
      go_wp2_with fail
      refine bodyPost_ret (v := .tuple #[zeroP, .int .i64 1]) ?_ rfl ⟨_, _, ⟨[], [], 0⟩, 1, rfl, HBE.out, isProg_zero _, (chk_bad _ ((validS_strip p).trans Hq.out)).symm⟩
      rw [results_cell_tmp (p := 4) (u := 5) (ty := 25) rfl]
      simp [asAddr, run_loadVar_row _ _ _ _ _ _ _ HR.out Tryz.underlying25 rfl prog_info, Result.andThen, zeroP]
    · obtain ⟨hr, hg⟩ := set3 gB2 (.slice fa p.funs.length fc) (.slice ta p.texts.length tc) (.int .i64 p.main)
      have hbn := grown_under (B := w.heap.size) hg (by omega) (fun k hk => by cases hk; omega)
      have HBE := Lib.hid (hb2.trans hbn)
      have HPE := Lib.hid (Hp.out.below HBE.out)
      have HR := Lib.hid hr
      clear hr hg hbn
      go_wp2_with fail
      refine bodyPost_ret (v := .tuple #[.agg #[.slice fa p.funs.length fc, .slice ta p.texts.length tc, .int .i64 p.main], .int .i64 0]) ?_ rfl ⟨_, _, p, 0, rfl, HBE.out, HPE.out, (chk_ok _ ((validS_strip p).trans Hq.out)).symm⟩
      rw [results_cell_tmp (p := 4) (u := 5) (ty := 25) rfl]
      simp [asAddr, run_loadVar_row _ _ _ _ _ _ _ HR.out Tryz.underlying25 rfl prog_info, Result.andThen]

structure CodesOk (p : ProgS) : Prop where
  main : fitB p.main = true
  ts : fitB (p.texts.length : Int) = true
  fs : fitB (p.funs.length : Int) = true
  texts : ∀ s ∈ p.texts, quotedB s = true
  heads : ∀ f ∈ p.funs, fitB f.c = true ∧ fitB f.l = true ∧ fitB f.d = true ∧ fitB (f.code.length : Int) = true
  codes : ∀ f ∈ p.funs, ∀ i ∈ f.code, fitB i.op = true ∧ fitB i.a = true ∧ fitB i.b = true
end Go.Proofs.YtidffjlpldalpaaGreatDoor
