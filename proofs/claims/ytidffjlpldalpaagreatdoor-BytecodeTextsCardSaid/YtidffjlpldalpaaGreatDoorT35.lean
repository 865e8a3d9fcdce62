/- The text of a program as the plain law has it; how long it is. Text of a program that is not valid; Itoa at the numbers of a program. The reference's Decimal: a number in decimal. -/
import Derived.Test.YtidffjlpldalpaaGreatDoorT34
import Derived.Test.YtidffjlpldalpaaGreatDoorT31
import Derived.Test.YtidffjlpldalpaaGreatDoorT14
import Derived.Test.YtidffjlpldalpaaGreatDoorT19
import Derived.Test.YtidffjlpldalpaaGreatDoorT4
import Derived.Test.YtidffjlpldalpaaGreatDoorT23
import Derived.Test.YtidffjlpldalpaaGreatDoorT17
import Derived.Lib.LaidTab
set_option linter.unusedVariables false
set_option linter.unusedSimpArgs false
namespace Go.Proofs.YtidffjlpldalpaaGreatDoor
open Go Go.RowKit

theorem lineK_data (s : ByteArray) (l : List Int) : ∀ k, k ≤ l.length → (lineK s l k).data.toList = s.data.toList ++ (l.take k).flatMap fun n => 32 :: Lib.itoa n
  | 0, _ => by simp [lineK]
  | k + 1, hk => by
    have ih := lineK_data s l k (by omega)
    unfold lineK
    rw [List.take_succ_eq_append_getElem (by omega), List.flatMap_append]
    simp only [ByteArray.data_append, Array.toList_append, ih, numS]
    simp [List.getD, show k < l.length by omega]
theorem lineU_eq (s : ByteArray) (l : List Int) : lineU s l = lineT s.data.toList l ++ [10] := by
  unfold lineU lineS lineT
  simp only [ByteArray.data_append, Array.toList_append]
  rw [lineK_data s l l.length (Nat.le_refl _), List.take_length]
theorem insU_eq (i : Ins) : insU i = insT i ++ [10] := by unfold insU insT wordU; exact lineU_eq _ _
theorem flatU_len {α : Type} (l : List α) (f : α → List UInt8) (c : Nat) (h : ∀ a ∈ l, (f a).length ≤ c) : (l.flatMap f).length ≤ l.length * c := by
  induction l with
  | nil => simp
  | cons x l ih =>
    rw [List.flatMap_cons, List.length_append, List.length_cons, Nat.succ_mul]
    have h1 := h x (List.mem_cons_self ..)
    have h2 := ih fun a ha => h a (List.mem_cons_of_mem _ ha)
    omega
theorem strU_len (s : ByteArray) : (strU s).length ≤ 10 + 2 * s.size := by
  have h1 := escU_len s.data.toList
  have h2 : s.data.toList.length = s.size := Array.length_toList
  have h3 : (strU s).length = 7 + ((quoteU s).length + 1) := by unfold strU; rw [List.length_append, List.length_append]; rfl
  have h4 : (quoteU s).length = (s.data.toList.flatMap escU).length + 2 := by simp only [quoteU, List.length_cons, List.length_append, List.length_nil]
  omega
theorem strs_len (l : List ByteArray) (h : sumTK l l.length ≤ 17000) : ∀ k, k ≤ l.length → (((l.take k).flatMap strU).length : Int) ≤ 10 * k + 2 * sumTK l k
  | 0, _ => by simp [sumTK]
  | k + 1, hk => by
    have ih := strs_len l h k (by omega)
    have hm := sumTK_mono l (k + 1) (l.length - (k + 1))
    rw [show k + 1 + (l.length - (k + 1)) = l.length by omega] at hm
    have e : sumTK l (k + 1) = sumTK l k + capLen (l.getD k default) := rfl
    have h0 := (sumTK_bound l k).1
    have hc : capLen (l.getD k default) ≤ 17000 := by omega
    have hs : capLen (l.getD k default) = ((l.getD k default).size : Int) := by unfold capLen at hc ⊢; omega
    have ht := strU_len (l.getD k default)
    have et : (l.take (k + 1)).flatMap strU = (l.take k).flatMap strU ++ strU (l.getD k default) := by
      rw [List.take_succ_eq_append_getElem (by omega), List.flatMap_append]; simp [List.getD, show k < l.length by omega]
    rw [et, List.length_append]
    omega
theorem lineU_len (s : ByteArray) (l : List Int) (hs : Short l) (h : s.size ≤ 100) (hl : l.length ≤ 3) : (lineU s l).length ≤ 200 := by
  rw [lineU_length]
  have := lineK_size s l hs l.length (Nat.le_refl _)
  unfold lineS
  rw [ByteArray.size_append]
  have e : (ByteArray.mk #[10]).size = 1 := rfl
  omega
/-- The numbers of a valid program are short. -/
theorem short52 (l : List Int) (h : ∀ n ∈ l, Num52 n) : Short l := short_of l fun x hx => by have := h x hx; unfold Num52 at this; omega
theorem wordS_size (op : Int) (h : knownB op = true) : (wordS op).size ≤ 100 := by
  have h0 : 0 ≤ op := by have : 1 ≤ op ∧ op ≤ 16 := by simpa [knownB, inB] using h
                         omega
  obtain ⟨n, rfl⟩ := Int.eq_ofNat_of_zero_le h0
  exact (words_cells n h).2.2.1
theorem textA_len (p : ProgD) (h : greatB p = false) (hv : validB p = true) : (textA p).length ≤ 1000000 := by
  obtain ⟨h0, h1, h2, h3⟩ := great_no p h
  have hg := (valid_good hv).1
  have hm : (mainU p).length ≤ 200 := lineU_len _ _ (short52 _ (fun n hn => by obtain rfl : n = p.main := by simpa using hn
                                                                               exact hg.main)) (by decide) (by simp)
  have ht := strs_len p.texts h3 p.texts.length (Nat.le_refl _)
  rw [List.take_of_length_le (Nat.le_refl _)] at ht
  have hf := flatU_len p.funs funU 12200 fun f hf => by
    have hs : stripF f ∈ (strip p).funs := List.mem_map_of_mem hf
    obtain ⟨n1, n2, n3⟩ := hg.heads _ hs
    have hl : (lineU ⟨#[102, 117, 110]⟩ [f.c, f.l, f.d]).length ≤ 200 := lineU_len _ _ (short52 _ (fun n hn => by
      simp only [List.mem_cons, List.not_mem_nil, or_false] at hn
      rcases hn with rfl | rfl | rfl
      · exact n1
      · exact n2
      · exact n3)) (by decide) (by simp)
    have hc := flatU_len f.code insU 200 fun i hi => by
      have hi' := hg.codes _ hs i hi
      have hk : knownB i.op = true := by have h1 := hi'.lo; have h2 := hi'.hi; simp [knownB, inB]; omega
      refine lineU_len _ _ (short52 _ (fun n hn => ?_)) (wordS_size _ hk) (by simp; omega)
      have hn2 := List.mem_of_mem_take hn
      simp only [List.mem_cons, List.not_mem_nil, or_false] at hn2
      rcases hn2 with rfl | rfl
      · exact hi'.a
      · exact hi'.b
    have hcl := h2 f hf
    have hm2 : f.code.length * 200 ≤ 60 * 200 := Nat.mul_le_mul_right _ hcl
    unfold funU
    rw [List.length_append]
    omega
  have hm3 : p.funs.length * 12200 ≤ 60 * 12200 := Nat.mul_le_mul_right _ h0
  unfold textA
  rw [List.length_append, List.length_append]
  omega

/-- The table of powers of ten. -/
def ITab (w : World) : Prop := Lib.TabIs Tryz.prog w "internal/strconv.uint64pow10" .u64 Lib.pow10Tab
theorem ITab.below {w w' : World} (h : ITab w) (hb : Below w.heap.size w w') : ITab w' := var_below h hb
theorem itoa52 (w : World) (h : ITab w) : ItoaAll Num52 w := fun l hl => ⟨fun w' hb x hx => by
    have hx2 := hl x hx
    unfold Num52 at hx2
    refine (Tryz.strconv_Itoa x (by omega) (by omega) w' (h.below hb)).mono fun e w2 ⟨he, k, os, hw⟩ => ⟨he, ?_⟩
    rw [hw]
    refine ⟨rfl, rfl, rfl, ?_, fun q hq => ?_⟩
    · show w'.heap.size ≤ (w'.heap ++ os).size
      rw [Array.size_append]; omega
    · show (w'.heap ++ os)[q]? = _
      rw [Array.getElem?_append_left hq], short52 l hl⟩
/-- A valid program's numbers. -/
theorem nums52 (p : ProgD) (h : validB p = true) : NumsOk Num52 p := by
  have hg := (valid_good h).1
  refine ⟨hg.main, fun f hf => ?_⟩
  have hs : stripF f ∈ (strip p).funs := List.mem_map_of_mem hf
  obtain ⟨n1, n2, n3⟩ := hg.heads _ hs
  exact ⟨n1, n2, n3, fun i hi => ⟨(hg.codes _ hs i hi).a, (hg.codes _ hs i hi).b⟩⟩
set_option maxHeartbeats 1000000 in
set_option maxRecDepth 100000 in
theorem text_no (fv tv : Value) (p : ProgD) (w : World) (h : IsProg w fv tv p) (hfl : p.funs.length ≤ 1000000) (htl : p.texts.length ≤ 1000000) (hv : validB p = false) :
    Calls Tryz.prog 7 #[.agg #[fv, tv, .int .i64 p.main]] w fun e w' => e = .returned (.tuple #[.string ⟨#[]⟩, .int .i64 1]) ∧ Below w.heap.size w w' := by
  have Hp := Lib.hid h
  have hs0 : Below w.heap.size w (w.alloc (.cells #[fv, tv, .int .i64 p.main] 25)) := (Below.refl _ _).alloc (Nat.le_refl _) _
  have HV := Lib.hid (valid_any fv tv p (w.alloc (.cells #[fv, tv, .int .i64 p.main] 25)) (Hp.out.below hs0) hfl htl (fun s _ => quoted_any s))
  have g0 : ∀ o v, (#[fv, tv, .int .i64 p.main] : Array Value)[o]? = some v → (w.alloc (.cells #[fv, tv, .int .i64 p.main] 25)).cell? ⟨w.heap.size, o, none⟩ = some v := fun o v hv => by rw [cell_new]; exact hv
  obtain ⟨⟨⟨fa, fc, rfl, hfc, _⟩, _⟩, ⟨ta, tc, rfl, htc, _⟩⟩ := h
  have Hno := Lib.hid hv
  clear hv
  go_enter Tryz.func7, Tryz.ntmps7
  go_wp2_with fail
  refine HV.out.mono ?_
  rintro e w1 ⟨rfl, hb1⟩
  rw [Hno.out]
  have hbb := hs0.trans (hb1.mono hs0.size)
  clear hs0 hb1 g0 HV
  go_wp2_with fail
  go_ret2
  exact ⟨rfl, hbb⟩

def decS (m : Nat) : ByteArray := ⟨(Lib.decDigits m).toArray⟩
theorem decS_size (m : Nat) (h : m ≤ 4503599627370496) : (decS m).size ≤ 20 := by
  have := Lib.decDigits_length m
  have := Lib.nDigits_le20 m (by omega)
  show (Lib.decDigits m).toArray.size ≤ 20
  rw [List.size_toArray]; omega
def DecOk (m : Nat) : Prop := ∀ w, Calls Tryz.prog 35 #[.int .i64 m] w fun e w' => e = .returned (.string (decS m)) ∧ Below w.heap.size w w'
theorem one_at (w : World) (x : Value) (t : TypeId) : (w.alloc (.cells #[x] t)).cell? ⟨w.heap.size, 0, none⟩ = some x := by
  simp [World.cell?, World.alloc, -World.alloc_eq]
set_option maxHeartbeats 2000000 in
set_option maxRecDepth 100000 in
theorem rdec_digit (d : Nat) (hd : d < 10) : DecOk d := fun w => by
  have hb : Below w.heap.size w (w.alloc (.cells #[.int .u8 (48 + d)] 5)) := (Below.refl _ _).alloc (Nat.le_refl _) _
  have hw : IntKind.wrap .u8 (48 + (d : Int)) = 48 + d := by rw [IntKind.wrap_u8]; omega
  have hcv := conv_str (w := w.alloc (.cells #[.int .u8 (48 + d)] 5)) (a := some ⟨w.heap.size, 0, none⟩) 1 1 [48 + (d : Int)] rfl (fun _ => ⟨_, _, rfl, fun j hj => by
    obtain rfl : j = 0 := by omega
    exact one_at _ _ _⟩)
  have HS : Hid (strOf [48 + (d : Int)] = decS d) := by
    show _ = _
    unfold decS
    rw [Lib.decDigits, dif_pos hd]; unfold strOf
    have e : (48 + (d : Int)).toNat = 48 + d := by omega
    simp only [List.map_cons, List.map_nil, e]
  go_enter Tryz.func35, Tryz.ntmps35
  go_wp2_with fail
  go_ret
  exact ⟨by rw [HS.out]; rfl, hb⟩
theorem decS_ten (m : Nat) (h : ¬ m < 10) : decS m = decS (m / 10) ++ decS (m % 10) := by
  unfold decS
  rw [Lib.decDigits, dif_neg h, Lib.decDigits.eq_def (m % 10), dif_pos (by omega)]
  apply ByteArray.ext; simp [ByteArray.data_append]
set_option maxHeartbeats 2000000 in
set_option maxRecDepth 100000 in
theorem rdec_nat (m : Nat) (hm : m ≤ 4503599627370496) : DecOk m := by
  induction m using Nat.strongRecOn with
  | _ m ih =>
    by_cases hd : m < 10
    · exact rdec_digit m hd
    · have H1 := Lib.hid (ih (m / 10) (by omega) (by omega))
      have H2 := Lib.hid (rdec_digit (m % 10) (by omega))
      have HT := Lib.hid (decS_ten m hd)
      have z1 := decS_size (m / 10) (by omega)
      have z2 := decS_size (m % 10) (by omega)
      clear ih
      intro w
      have q1 : Int.tdiv (m : Int) 10 = ((m / 10 : Nat) : Int) := by rw [Int.tdiv_eq_ediv_of_nonneg (by omega)]; omega
      have q2 : Int.tmod (m : Int) 10 = ((m % 10 : Nat) : Int) := by rw [Int.tmod_eq_emod_of_nonneg (by omega)]; omega
      have q3 : wrap64 ((m / 10 : Nat) : Int) = ((m / 10 : Nat) : Int) := by unfold wrap64; omega
      have q4 : IntKind.i64.wrap ((m / 10 : Nat) : Int) = ((m / 10 : Nat) : Int) := by rw [IntKind.wrap_i64]; omega
      have hz : (decS (m / 10)).size + (decS (m % 10)).size ≤ 9223372036854775807 := by omega
      generalize hx : m / 10 = x at *
      generalize hy : m % 10 = y at *
      go_enter Tryz.func35, Tryz.ntmps35
      go_wp2_with fail
      refine (H1.out _).mono ?_
      rintro e w1 ⟨rfl, hb1⟩
      go_wp2_with fail
      refine (H2.out _).mono ?_
      rintro e w2 ⟨rfl, hb2⟩
      go_wp2_with fail
      go_ret
      exact ⟨by rw [HT.out]; rfl, hb1.trans (hb2.mono hb1.size)⟩
theorem decS_numS (n : Int) (h : ¬ n < 0) : numS n = decS n.toNat := by unfold numS decS Lib.itoa; rw [if_neg h]
theorem decS_neg (n : Int) (h : n < 0) : numS n = ⟨#[45]⟩ ++ decS n.natAbs := by unfold numS decS Lib.itoa; rw [if_pos h]; apply ByteArray.ext; simp [ByteArray.data_append]
set_option maxHeartbeats 2000000 in
set_option maxRecDepth 100000 in
theorem rdecimal_any (n : Int) (h1 : -4503599627370496 ≤ n) (h2 : n ≤ 4503599627370496) (w : World) :
    Calls Tryz.prog 35 #[.int .i64 n] w fun e w' => e = .returned (.string (numS n)) ∧ Below w.heap.size w w' := by
  by_cases h0 : n < 0
  · have HN := Lib.hid (decS_neg n h0)
    by_cases h9 : n < -9
    · have H1 := Lib.hid (rdec_nat (n.natAbs / 10) (by omega))
      have H2 := Lib.hid (rdec_digit (n.natAbs % 10) (by omega))
      have HT := Lib.hid (decS_ten n.natAbs (by omega))
      have z1 := decS_size (n.natAbs / 10) (by omega)
      have z2 := decS_size (n.natAbs % 10) (by omega)
      have q1 : -(Int.tdiv n 10) = ((n.natAbs / 10 : Nat) : Int) := by
        rw [show n = -((n.natAbs : Nat) : Int) by omega, Int.neg_tdiv, Int.tdiv_eq_ediv_of_nonneg (by omega)]; omega
      have q2 : -(Int.tmod n 10) = ((n.natAbs % 10 : Nat) : Int) := by
        rw [show n = -((n.natAbs : Nat) : Int) by omega, Int.neg_tmod, Int.tmod_eq_emod_of_nonneg (by omega)]; omega
      have q3 : IntKind.i64.wrap (Int.tdiv n 10) = Int.tdiv n 10 := by rw [IntKind.wrap_i64]; omega
      have q3' : wrap64 (Int.tdiv n 10) = Int.tdiv n 10 := by unfold wrap64; omega
      have q4 : IntKind.i64.wrap ((n.natAbs / 10 : Nat) : Int) = ((n.natAbs / 10 : Nat) : Int) := by rw [IntKind.wrap_i64]; omega
      have q5 : IntKind.i64.wrap ((n.natAbs % 10 : Nat) : Int) = ((n.natAbs % 10 : Nat) : Int) := by rw [IntKind.wrap_i64]; omega
      generalize n.natAbs / 10 = x at *
      generalize n.natAbs % 10 = y at *
      have e1 : (⟨#[45]⟩ : ByteArray).size = 1 := rfl
      have hz : (⟨#[45]⟩ : ByteArray).size + (decS x).size ≤ 9223372036854775807 := by omega
      have hz2 : (⟨#[45]⟩ ++ decS x : ByteArray).size + (decS y).size ≤ 9223372036854775807 := by rw [ByteArray.size_append]; omega
      have HF : Hid ((⟨#[45]⟩ ++ decS x) ++ decS y = numS n) := by show _ = _; rw [HN.out, HT.out, ByteArray.append_assoc]
      go_enter Tryz.func35, Tryz.ntmps35
      go_wp2_with fail
      refine (H1.out _).mono ?_
      rintro e w1 ⟨rfl, hb1⟩
      go_wp2_with fail
      refine (H2.out _).mono ?_
      rintro e w2 ⟨rfl, hb2⟩
      go_wp2_with fail
      go_ret
      exact ⟨by rw [← HF.out]; rfl, hb1.trans (hb2.mono hb1.size)⟩
    · have H1 := Lib.hid (rdec_digit n.natAbs (by omega))
      have z1 := decS_size n.natAbs (by omega)
      have q1 : -n = ((n.natAbs : Nat) : Int) := by omega
      have q4 : IntKind.i64.wrap ((n.natAbs : Nat) : Int) = ((n.natAbs : Nat) : Int) := by rw [IntKind.wrap_i64]; omega
      generalize n.natAbs = x at *
      have e1 : (⟨#[45]⟩ : ByteArray).size = 1 := rfl
      have hz : (⟨#[45]⟩ : ByteArray).size + (decS x).size ≤ 9223372036854775807 := by omega
      go_enter Tryz.func35, Tryz.ntmps35
      go_wp2_with fail
      refine (H1.out _).mono ?_
      rintro e w1 ⟨rfl, hb1⟩
      go_wp2_with fail
      go_ret
      exact ⟨by rw [HN.out]; rfl, hb1⟩
  · rw [decS_numS n h0]
    have := rdec_nat n.toNat (by omega) w
    rw [show ((n.toNat : Nat) : Int) = n by omega] at this
    exact this
end Go.Proofs.YtidffjlpldalpaaGreatDoor
