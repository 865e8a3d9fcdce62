/- The text of a program as the plain law has it; how long it is. Text of a program that is not valid; Itoa at the numbers of a program. -/
import Derived.Test.YtidffjlpldalpaaGreatDoorP36
import Derived.Test.YtidffjlpldalpaaGreatDoorP34
import Derived.Test.YtidffjlpldalpaaGreatDoorP13
import Derived.Test.YtidffjlpldalpaaGreatDoorP24
import Derived.Lib.LaidTab
set_option linter.unusedVariables false
set_option linter.unusedSimpArgs false
namespace Go.Proofs.YtidffjlpldalpaaGreatDoor
open Go Go.RowKit

theorem lineK_data (s : ByteArray) (l : List Int) : ∀ k, k ≤ l.length → (lineK s l k).data.toList = s.data.toList ++ (l.take k).flatMap fun n => 32 :: Lib.itoa n
  | 0, _ => by simp [lineK]
  | k + 1, hk => by
    have ih := lineK_data s l k (by omega)
    unfold lineK
    rw [List.take_succ_eq_append_getElem (by omega), List.flatMap_append]
    simp only [ByteArray.data_append, Array.toList_append, ih, numS]
    simp [List.getD, show k < l.length by omega]
theorem lineU_eq (s : ByteArray) (l : List Int) : lineU s l = lineT s.data.toList l ++ [10] := by
  unfold lineU lineS lineT
  simp only [ByteArray.data_append, Array.toList_append]
  rw [lineK_data s l l.length (Nat.le_refl _), List.take_length]
theorem strU_eq (s : ByteArray) : strU s = strT s ++ [10] := by unfold strU strT wString; simp
theorem insU_eq (i : Ins) : insU i = insT i ++ [10] := by unfold insU insT wordU; exact lineU_eq _ _
theorem funU_eq (f : FunD) : funU f = (funT (stripF f)).flatMap fun x => x ++ [10] := by
  unfold funU funT
  rw [List.flatMap_cons, lineU_eq]
  have h : ∀ is : List Ins, is.flatMap insU = (is.map insT).flatMap fun x => x ++ [10] := fun is => by
    induction is with
    | nil => rfl
    | cons a r ih => rw [List.flatMap_cons, List.map_cons, List.flatMap_cons, ih, insU_eq]
  rw [h]; rfl
theorem textA_strip (p : ProgD) : textA p = textS (strip p) := by
  unfold textA textS linesT bodyT mainU
  rw [List.flatMap_cons, List.flatMap_append, lineU_eq]
  have h1 : ∀ ts : List ByteArray, ts.flatMap strU = (ts.map strT).flatMap fun x => x ++ [10] := fun ts => by
    induction ts with
    | nil => rfl
    | cons a r ih => rw [List.flatMap_cons, List.map_cons, List.flatMap_cons, ih, strU_eq]
  have h2 : ∀ fs : List FunD, fs.flatMap funU = ((fs.map stripF).flatMap funT).flatMap fun x => x ++ [10] := fun fs => by
    induction fs with
    | nil => rfl
    | cons a r ih => rw [List.flatMap_cons, List.map_cons, List.flatMap_cons, List.flatMap_append, ih, funU_eq]
  rw [h1, h2]; rfl
theorem flatU_len {α : Type} (l : List α) (f : α → List UInt8) (c : Nat) (h : ∀ a ∈ l, (f a).length ≤ c) : (l.flatMap f).length ≤ l.length * c := by
  induction l with
  | nil => simp
  | cons x l ih =>
    rw [List.flatMap_cons, List.length_append, List.length_cons, Nat.succ_mul]
    have h1 := h x (List.mem_cons_self ..)
    have h2 := ih fun a ha => h a (List.mem_cons_of_mem _ ha)
    omega
theorem strU_len (s : ByteArray) : (strU s).length ≤ 10 + 2 * s.size := by
  have h1 := escU_len s.data.toList
  have h2 : s.data.toList.length = s.size := Array.length_toList
  have h3 : (strU s).length = 7 + ((quoteU s).length + 1) := by unfold strU; rw [List.length_append, List.length_append]; rfl
  have h4 : (quoteU s).length = (s.data.toList.flatMap escU).length + 2 := by simp only [quoteU, List.length_cons, List.length_append, List.length_nil]
  omega
theorem strs_len (l : List ByteArray) (h : sumTK l l.length ≤ 17000) : ∀ k, k ≤ l.length → (((l.take k).flatMap strU).length : Int) ≤ 10 * k + 2 * sumTK l k
  | 0, _ => by simp [sumTK]
  | k + 1, hk => by
    have ih := strs_len l h k (by omega)
    have hm := sumTK_mono l (k + 1) (l.length - (k + 1))
    rw [show k + 1 + (l.length - (k + 1)) = l.length by omega] at hm
    have e : sumTK l (k + 1) = sumTK l k + capLen (l.getD k default) := rfl
    have h0 := (sumTK_bound l k).1
    have hc : capLen (l.getD k default) ≤ 17000 := by omega
    have hs : capLen (l.getD k default) = ((l.getD k default).size : Int) := by unfold capLen at hc ⊢; omega
    have ht := strU_len (l.getD k default)
    have et : (l.take (k + 1)).flatMap strU = (l.take k).flatMap strU ++ strU (l.getD k default) := by
      rw [List.take_succ_eq_append_getElem (by omega), List.flatMap_append]; simp [List.getD, show k < l.length by omega]
    rw [et, List.length_append]
    omega
theorem lineU_len (s : ByteArray) (l : List Int) (hs : Short l) (h : s.size ≤ 100) (hl : l.length ≤ 3) : (lineU s l).length ≤ 200 := by
  rw [lineU_length]
  have := lineK_size s l hs l.length (Nat.le_refl _)
  unfold lineS
  rw [ByteArray.size_append]
  have e : (ByteArray.mk #[10]).size = 1 := rfl
  omega
/-- The numbers of a valid program are short. -/
theorem short52 (l : List Int) (h : ∀ n ∈ l, Num52 n) : Short l := short_of l fun x hx => by have := h x hx; unfold Num52 at this; omega
theorem wordS_size (op : Int) (h : knownB op = true) : (wordS op).size ≤ 100 := by
  have h0 : 0 ≤ op := by have : 1 ≤ op ∧ op ≤ 16 := by simpa [knownB, inB] using h
                         omega
  obtain ⟨n, rfl⟩ := Int.eq_ofNat_of_zero_le h0
  exact (words_cells n h).2.2.1
theorem textA_len (p : ProgD) (h : greatB p = false) (hv : validB p = true) : (textA p).length ≤ 1000000 := by
  obtain ⟨h0, h1, h2, h3⟩ := great_no p h
  have hg := (valid_good hv).1
  have hm : (mainU p).length ≤ 200 := lineU_len _ _ (short52 _ (fun n hn => by obtain rfl : n = p.main := by simpa using hn
                                                                               exact hg.main)) (by decide) (by simp)
  have ht := strs_len p.texts h3 p.texts.length (Nat.le_refl _)
  rw [List.take_of_length_le (Nat.le_refl _)] at ht
  have hf := flatU_len p.funs funU 12200 fun f hf => by
    have hs : stripF f ∈ (strip p).funs := List.mem_map_of_mem hf
    obtain ⟨n1, n2, n3⟩ := hg.heads _ hs
    have hl : (lineU ⟨#[102, 117, 110]⟩ [f.c, f.l, f.d]).length ≤ 200 := lineU_len _ _ (short52 _ (fun n hn => by
      simp only [List.mem_cons, List.not_mem_nil, or_false] at hn
      rcases hn with rfl | rfl | rfl
      · exact n1
      · exact n2
      · exact n3)) (by decide) (by simp)
    have hc := flatU_len f.code insU 200 fun i hi => by
      have hi' := hg.codes _ hs i hi
      have hk : knownB i.op = true := by have h1 := hi'.lo; have h2 := hi'.hi; simp [knownB, inB]; omega
      refine lineU_len _ _ (short52 _ (fun n hn => ?_)) (wordS_size _ hk) (by simp; omega)
      have hn2 := List.mem_of_mem_take hn
      simp only [List.mem_cons, List.not_mem_nil, or_false] at hn2
      rcases hn2 with rfl | rfl
      · exact hi'.a
      · exact hi'.b
    have hcl := h2 f hf
    have hm2 : f.code.length * 200 ≤ 60 * 200 := Nat.mul_le_mul_right _ hcl
    unfold funU
    rw [List.length_append]
    omega
  have hm3 : p.funs.length * 12200 ≤ 60 * 12200 := Nat.mul_le_mul_right _ h0
  unfold textA
  rw [List.length_append, List.length_append]
  omega
theorem body_len2 (p : ProgD) (h : greatB p = false) : (bodyL p).length ≤ 150000 := by
  obtain ⟨h0, h1, h2, h3⟩ := great_no p h
  unfold bodyL
  simp only [List.length_append]
  have a0 := putL_length p.main
  have a1 := putL_length p.texts.length
  have a2 := putL_length p.funs.length
  have a3 := texts_len p.texts h3 p.texts.length (Nat.le_refl _)
  rw [List.take_of_length_le (Nat.le_refl _)] at a3
  have a4 := flat_len_take p.funs funL 1500 fun f hf => funL_len f (h2 f hf)
  have a5 : p.funs.length * 1500 ≤ 60 * 1500 := Nat.mul_le_mul_right _ h0
  omega

/-- The table of powers of ten. -/
def ITab (w : World) : Prop := Lib.TabIs Tryz.prog w "internal/strconv.uint64pow10" .u64 Lib.pow10Tab
theorem ITab.below {w w' : World} (h : ITab w) (hb : Below w.heap.size w w') : ITab w' := var_below h hb
theorem itoa52 (w : World) (h : ITab w) : ItoaAll Num52 w := fun l hl => ⟨fun w' hb x hx => by
    have hx2 := hl x hx
    unfold Num52 at hx2
    refine (Tryz.strconv_Itoa x (by omega) (by omega) w' (h.below hb)).mono fun e w2 ⟨he, k, os, hw⟩ => ⟨he, ?_⟩
    rw [hw]
    refine ⟨rfl, rfl, rfl, ?_, fun q hq => ?_⟩
    · show w'.heap.size ≤ (w'.heap ++ os).size
      rw [Array.size_append]; omega
    · show (w'.heap ++ os)[q]? = _
      rw [Array.getElem?_append_left hq], short52 l hl⟩
/-- A valid program's numbers. -/
theorem nums52 (p : ProgD) (h : validB p = true) : NumsOk Num52 p := by
  have hg := (valid_good h).1
  refine ⟨hg.main, fun f hf => ?_⟩
  have hs : stripF f ∈ (strip p).funs := List.mem_map_of_mem hf
  obtain ⟨n1, n2, n3⟩ := hg.heads _ hs
  exact ⟨n1, n2, n3, fun i hi => ⟨(hg.codes _ hs i hi).a, (hg.codes _ hs i hi).b⟩⟩
set_option maxHeartbeats 1000000 in
set_option maxRecDepth 100000 in
theorem text_no (fv tv : Value) (p : ProgD) (w : World) (h : IsProg w fv tv p) (hfl : p.funs.length ≤ 1000000) (htl : p.texts.length ≤ 1000000) (hv : validB p = false) :
    Calls Tryz.prog 7 #[.agg #[fv, tv, .int .i64 p.main]] w fun e w' => e = .returned (.tuple #[.string ⟨#[]⟩, .int .i64 1]) ∧ Below w.heap.size w w' := by
  have Hp := Lib.hid h
  have hs0 : Below w.heap.size w (w.alloc (.cells #[fv, tv, .int .i64 p.main] 25)) := (Below.refl _ _).alloc (Nat.le_refl _) _
  have HV := Lib.hid (valid_any fv tv p (w.alloc (.cells #[fv, tv, .int .i64 p.main] 25)) (Hp.out.below hs0) hfl htl (fun s _ => quoted_any s))
  have g0 : ∀ o v, (#[fv, tv, .int .i64 p.main] : Array Value)[o]? = some v → (w.alloc (.cells #[fv, tv, .int .i64 p.main] 25)).cell? ⟨w.heap.size, o, none⟩ = some v := fun o v hv => by rw [cell_new]; exact hv
  obtain ⟨⟨⟨fa, fc, rfl, hfc, _⟩, _⟩, ⟨ta, tc, rfl, htc, _⟩⟩ := h
  have Hno := Lib.hid hv
  clear hv
  go_enter Tryz.func7, Tryz.ntmps7
  go_wp2_with fail
  refine HV.out.mono ?_
  rintro e w1 ⟨rfl, hb1⟩
  rw [Hno.out]
  have hbb := hs0.trans (hb1.mono hs0.size)
  clear hs0 hb1 g0 HV
  go_wp2_with fail
  go_ret2
  exact ⟨rfl, hbb⟩
end Go.Proofs.YtidffjlpldalpaaGreatDoor
