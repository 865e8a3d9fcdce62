/- lexer.Quote and quoted. -/
import Derived.Test.YtidffjlpldalpaaGreatDoorT9
set_option linter.unusedVariables false
set_option linter.unusedSimpArgs false
namespace Go.Proofs.YtidffjlpldalpaaGreatDoor
open Go Go.RowKit

set_option maxHeartbeats 2000000 in
set_option maxRecDepth 100000 in
theorem bld_WriteByte (B b : Nat) (bs : List Value) (c : Int) (w : World) (h : Lib.IsBuilder 52 5 B b bs w) (hlen : bs.length + 1 ≤ 140737488355328) (hBw : B ≤ w.heap.size) :
    Calls Tryz.prog 53 #[.pointer (some ⟨b, 0, none⟩), .int .u8 c] w fun e w' => e = .returned .nilIface ∧ (Lib.BuilderAt 52 5 B b (.pointer (some ⟨b, 0, none⟩)) (bs ++ [.int .u8 c]) w' ∧ Below B w w' ∧ Others w w') := by
  obtain ⟨i0, hi, hz0, hz1, hz2⟩ := info_parts info_u8
  go_enter Tryz.func53, Tryz.ntmps53
  go_wp2_with fail
  refine (bld_copyCheck B b bs _ h).mono ?_
  rintro e w1 ⟨rfl, h1, hb1, hO1⟩
  obtain ⟨hB, v, hbk, hown, hne⟩ := h1
  have c0 : w1.cell? ⟨b, 0, none⟩ = some (.pointer (some ⟨b, 0, none⟩)) := by rw [Lib.cell_of_heap hbk]; rfl
  have c1 : w1.cell? ⟨b, 1, none⟩ = some v := by rw [Lib.cell_of_heap hbk]; rfl
  go_wp2_with (at_builtin; refine wpList_append_own _ rfl _ _ 38 rfl B 5 i0 (.int .u8 0) 1 1 Tryz.underlying38 hi hz0 hz1 hz2 rfl (by decide) _ bs.length bs rfl (hown.alloc _) ⟨w1.heap.size, 0, none⟩ 1 1 [.int .u8 c] rfl rfl ?c1 ?c2 ?c3 ?c4 ?c5 ?_)
  case c1 => exact cell_one_new _ _ _
  case c2 => intro u hu; simp at hu; subst hu; rfl
  case c3 => unfold maxLen; omega
  case c4 => omega
  case c5 => have := hb1.size; simp; omega
  intro v' w2 hown' hgrow _
  have hlt : b < w1.heap.size := heap_lt hbk
  have hbA : (w1.alloc (.cells #[.int .u8 c] 5)).heap[b]? = some (.cells #[.pointer (some ⟨b, 0, none⟩), v] 52 (0, 0)) := (Below.heap_alloc _ _ _ hlt).trans hbk
  have hb2 : w2.heap[b]? = some (.cells #[.pointer (some ⟨b, 0, none⟩), v] 52 (0, 0)) := by
    rw [hgrow.block b (heap_lt hbA) (fun e => hne e.symm)]
    exact hbA
  have d0 : w2.cell? ⟨b, 0, none⟩ = some (.pointer (some ⟨b, 0, none⟩)) := by rw [Lib.cell_of_heap hb2]; rfl
  have d1 : w2.cell? ⟨b, 1, none⟩ = some v := by rw [Lib.cell_of_heap hb2]; rfl
  have f1 : w2.frozen? ⟨b, 1, none⟩ = false := Lib.frozen_of_heap hb2 1
  have hOA : Others w1 (w1.alloc (.cells #[.int .u8 c] 5)) := Others.below ((Below.refl _ _).alloc (Nat.le_refl _) _)
  have hownA : (w1.alloc (.cells #[.int .u8 c] 5)).ownsRow B 5 1 v bs.length bs := hown.alloc _
  have hbA' : Below B w (w1.alloc (.cells #[.int .u8 c] 5)) := hb1.alloc (by have := hb1.size; omega) _
  obtain ⟨ao, n', cap, rfl⟩ : ∃ ao n' cap, v' = .slice ao n' cap := by
    rcases hown'.2 with ⟨hv, _⟩ | ⟨g, cap, cur, hv, _⟩
    · exact ⟨_, _, _, hv⟩
    · exact ⟨_, _, _, hv⟩
  go_wp2_with fail
  go_ret
  refine ⟨rfl, ?_, ?_, hO1.trans (hOA.trans ((Others.grown hgrow hownA).trans (Others.setCell hb2 _)))⟩
  · exact Lib.BuilderAt.put (T := 52) (e := 5) hB hb2 (bs' := bs ++ [.int .u8 c]) (by simpa using hown') (by decide)
  · exact (hbA'.grown hgrow (by have := hb1.size; simp; omega) (fun k hk => (hown.lt k hk).1)).setCell (p := ⟨b, 1, none⟩) hB _

def showB (c : Int) : Bool := decide (32 ≤ c) && decide (c ≤ 126)
theorem visible_any (c : Int) (w : World) (h0 : 0 ≤ c) (h1 : c ≤ 255) :
    Calls Tryz.prog 54 #[.int .u8 c] w fun e w' => e = .returned (.bool (showB c)) ∧ w = w' := by
  go_enter Tryz.func54, Tryz.ntmps54
  go_wp2
  all_goals
    go_ret
    refine ⟨ret_bool ?_, rfl⟩
    simp [showB] <;> omega
theorem ub (c : UInt8) : 0 ≤ (c.toNat : Int) ∧ (c.toNat : Int) ≤ 255 := ⟨by omega, by have := c.toNat_lt; omega⟩
theorem u8_of (b : UInt8) (n : Nat) (hn : n < 256) : ((b.toNat : Int) == (n : Int)) = (b == UInt8.ofNat n) := by
  by_cases h : b = UInt8.ofNat n
  · subst h
    have : (UInt8.ofNat n).toNat = n := by simp [Nat.mod_eq_of_lt hn]
    rw [this]; simp
  · have h2 : b.toNat ≠ n := fun e => h (by rw [← e]; simp)
    have h3 : ¬ ((b.toNat : Int) = (n : Int)) := by omega
    rw [beq_eq_false_iff_ne.2 h3, beq_eq_false_iff_ne.2 h]
/-- How a byte is quoted. -/
def escU (b : UInt8) : List UInt8 := if b == 10 then [92, 110] else if b == 34 || b == 92 then [92, b] else [b]
def quoteU (s : ByteArray) : List UInt8 := 34 :: (s.data.toList.flatMap escU ++ [34])
def quoteT (s : ByteArray) : ByteArray × Int := if s.size ≤ 16384 then (if s.data.toList.all visB = true then (⟨(quoteU s).toArray⟩, 0) else (⟨#[]⟩, 3)) else (⟨#[]⟩, 5)
theorem take_next (s : ByteArray) (k : Nat) (h : k < s.size) : s.data.toList.take (k + 1) = s.data.toList.take k ++ [s[k]] := by
  rw [List.take_succ_eq_append_getElem (by simpa using h)]; rfl
theorem escU_len (l : List UInt8) : (l.flatMap escU).length ≤ 2 * l.length := by
  induction l with
  | nil => simp
  | cons x l ih =>
    rw [List.flatMap_cons, List.length_append, List.length_cons]
    have : (escU x).length ≤ 2 := by unfold escU; split; · simp
                                     split <;> simp
    omega
def QuoteOk (s : ByteArray) (w : World) (e : Ending) (w' : World) : Prop := e = .returned (.tuple #[.string (quoteT s).1, .int .i64 (quoteT s).2]) ∧ Below w.heap.size w w'
theorem quote_big (s : ByteArray) (h : ¬ s.size ≤ 16384) : quoteT s = (⟨#[]⟩, 5) := by unfold quoteT; rw [if_neg h]
theorem quote_bad (s : ByteArray) (h : s.size ≤ 16384) (k : Nat) (hk : k < s.size) (hv : visB s[k] = false) : quoteT s = (⟨#[]⟩, 3) := by
  unfold quoteT; rw [if_pos h, if_neg]
  intro ha
  have := List.all_eq_true.1 ha s[k] (by simp [ByteArray.getElem_eq_getElem_data])
  rw [this] at hv; cases hv
theorem quote_good (s : ByteArray) (h : s.size ≤ 16384) (hv : s.data.toList.all visB = true) : quoteT s = (⟨(quoteU s).toArray⟩, 0) := by unfold quoteT; rw [if_pos h, if_pos hv]
theorem bytes_step (pre : List UInt8) (c : UInt8) : Lib.byteCells pre ++ [Value.int .u8 (c.toNat : Int)] = Lib.byteCells (pre ++ [c]) := by
  rw [Lib.byteCells_append]; rfl
def quotePre (s : ByteArray) (k : Nat) : List UInt8 := 34 :: (s.data.toList.take k).flatMap escU
theorem quotePre_next (s : ByteArray) (k : Nat) (h : k < s.size) : quotePre s (k + 1) = quotePre s k ++ escU s[k] := by
  unfold quotePre; rw [take_next s k h, List.flatMap_append]; simp
theorem quotePre_len (s : ByteArray) (k : Nat) (hk : k ≤ s.size) (h : s.size ≤ 16384) : (quotePre s k).length ≤ 40000 := by
  unfold quotePre
  have := escU_len (s.data.toList.take k)
  have h2 : (s.data.toList.take k).length ≤ k := by simp; omega
  simp only [List.length_cons]; omega
set_option maxHeartbeats 2000000 in
set_option maxRecDepth 100000 in
theorem quote_any (s : ByteArray) (w : World) : Calls Tryz.prog 23 #[.string s] w (QuoteOk s w) := by
  by_cases hs : s.size ≤ 16384
  rotate_left
  · have Hb := Lib.hid (quote_big s hs)
    go_enter Tryz.func23, Tryz.ntmps23
    go_wp2_with fail
    go_ret2
    exact ⟨by rw [Hb.out]; rfl, Below.refl _ _⟩
  · have HB1 : Hid (Lib.IsBuilder 52 5 w.heap.size w.heap.size [] (w.alloc (.cells #[.pointer none, .slice none 0 0] 52))) := bld_fresh w _ (Nat.le_refl _)
    have hb1 : Below w.heap.size w (w.alloc (.cells #[.pointer none, .slice none 0 0] 52)) := (Below.refl _ _).alloc (Nat.le_refl _) _
    go_enter Tryz.func23, Tryz.ntmps23
    go_wp2_with fail
    generalize w.alloc (.cells #[.pointer none, .slice none 0 0] 52) = w1 at *
    refine (bld_WriteByte w.heap.size w.heap.size [] 34 w1 HB1.out (by simp) hb1.size).mono ?_
    rintro e w2 ⟨rfl, hbd, hb2, _⟩
    have HB2 : Hid (Lib.BuilderAt 52 5 w.heap.size w.heap.size (.pointer (some ⟨w.heap.size, 0, none⟩)) (Lib.byteCells (quotePre s 0)) w2) := hbd
    have hbb2 : Below w.heap.size w w2 := hb1.trans hb2
    clear hbd hb2 hb1 HB1
    go_wp2_with fail
    go_loopw [13] (fun i wr => (∃ k : Nat, k ≤ s.size ∧ i = .int .i64 k ∧ Hid ((s.data.toList.take k).all visB = true) ∧ Hid (Lib.BuilderAt 52 5 w.heap.size w.heap.size (.pointer (some ⟨w.heap.size, 0, none⟩)) (Lib.byteCells (quotePre s k)) wr)) ∧ Below w.heap.size w wr) (fun i _ => s.size - (intOf i).toNat)
    case atStart => exact ⟨⟨0, Nat.zero_le _, rfl, rfl, HB2⟩, hbb2⟩
    case round =>
      obtain ⟨⟨k, hk, rfl, hall, HB⟩, hbr⟩ := hrel
      have hwz := hbr.size
      have hpl := quotePre_len s k hk hs
      by_cases hlt : k < s.size
      · obtain ⟨u0, u1⟩ := ub s[k]
        have hN := quotePre_next s k hlt
        have hA : (s.data.toList.take (k + 1)).all visB = ((s.data.toList.take k).all visB && visB s[k]) := by rw [take_next s k hlt]; simp
        have Hbad := Lib.hid (quote_bad s hs k hlt)
        have Hv : Hid (visB s[k] = (((s[k].toNat : Int) == 10) || showB (s[k].toNat : Int))) := by
          show _ = _
          rw [show ((s[k].toNat : Int) == 10) = (s[k] == 10) from u8_of s[k] 10 (by decide)]
          unfold visB showB; congr 2 <;> (apply decide_eq_decide.2; omega)
        have He : Hid (escU s[k] = if ((s[k].toNat : Int) == 10) = true then [92, 110] else if (((s[k].toNat : Int) == 34) || ((s[k].toNat : Int) == 92)) = true then [92, s[k]] else [s[k]]) := by
          show _ = _
          rw [show ((s[k].toNat : Int) == 10) = (s[k] == 10) from u8_of s[k] 10 (by decide), show ((s[k].toNat : Int) == 34) = (s[k] == 34) from u8_of s[k] 34 (by decide), show ((s[k].toNat : Int) == 92) = (s[k] == 92) from u8_of s[k] 92 (by decide)]
          rfl
        have HN := Lib.hid hN
        have HA := Lib.hid hA
        clear hN hA
        obtain ⟨q10, h10⟩ : ∃ q, ((s[k].toNat : Int) == 10) = q := ⟨_, rfl⟩
        obtain ⟨qv, hv⟩ : ∃ q, showB (s[k].toNat : Int) = q := ⟨_, rfl⟩
        obtain ⟨q34, h34⟩ : ∃ q, ((s[k].toNat : Int) == 34) = q := ⟨_, rfl⟩
        obtain ⟨q92, h92⟩ : ∃ q, ((s[k].toNat : Int) == 92) = q := ⟨_, rfl⟩
        have Hv' := Lib.hid (Hv.out.trans (by rw [h10, hv]))
        have He' := Lib.hid (He.out.trans (by rw [h10, h34, h92]))
        have HV := Lib.hid hv
        clear hv Hv He
        cases q10
        · cases qv
          · go_wp2_with fail
            refine (visible_any _ _ u0 u1).mono ?_
            rintro e w' ⟨rfl, rfl⟩
            rw [HV.out]
            go_wp2_with fail
            go_ret2
            exact ⟨by rw [Hbad.out Hv'.out]; rfl, hbr⟩
          · have hA' : Hid ((s.data.toList.take (k + 1)).all visB = true) := by show _ = _; rw [HA.out, hall.out, Hv'.out]; rfl
            cases q34
            · cases q92
              · go_wp2_with fail
                refine (visible_any _ _ u0 u1).mono ?_
                rintro e w' ⟨rfl, rfl⟩
                rw [HV.out]
                go_wp2_with fail
                refine (bld_WriteByte w.heap.size w.heap.size _ _ _ (.inr HB.out) (by rw [cellsLen]; omega) hwz).mono ?_
                rintro e w3 ⟨rfl, hbd, hb3, _⟩
                rw [bytes_step] at hbd
                have HB3 : Hid (Lib.BuilderAt 52 5 w.heap.size w.heap.size (.pointer (some ⟨w.heap.size, 0, none⟩)) (Lib.byteCells (quotePre s (k + 1))) w3) := by
                  show Lib.BuilderAt _ _ _ _ _ _ _
                  rw [HN.out, He'.out]; exact hbd
                clear hbd
                go_wp2_with fail
                go_round
                case rel => exact ⟨⟨k + 1, by omega, by go_num, hA', HB3⟩, hbr.trans hb3⟩
                case measure => simp [intOf]; omega
              · go_wp2_with fail
                refine (visible_any _ _ u0 u1).mono ?_
                rintro e w' ⟨rfl, rfl⟩
                rw [HV.out]
                go_wp2_with fail
                refine (bld_WriteByte w.heap.size w.heap.size _ 92 _ (.inr HB.out) (by rw [cellsLen]; omega) hwz).mono ?_
                rintro e w3 ⟨rfl, hbd, hb3, _⟩
                have HB3 := Lib.hid hbd
                have hbr3 := hbr.trans hb3
                clear hbd hb3
                go_wp2_with fail
                refine (bld_WriteByte w.heap.size w.heap.size _ _ _ (.inr HB3.out) (by rw [List.length_append, cellsLen]; simp; omega) hbr3.size).mono ?_
                rintro e w4 ⟨rfl, hbd, hb4, _⟩
                have HB4 : Hid (Lib.BuilderAt 52 5 w.heap.size w.heap.size (.pointer (some ⟨w.heap.size, 0, none⟩)) (Lib.byteCells (quotePre s (k + 1))) w4) := by
                  show Lib.BuilderAt _ _ _ _ _ _ _
                  rw [HN.out, He'.out, Lib.byteCells_append]
                  rw [List.append_assoc] at hbd; exact hbd
                clear hbd
                go_wp2_with fail
                go_round
                case rel => exact ⟨⟨k + 1, by omega, by go_num, hA', HB4⟩, hbr3.trans hb4⟩
                case measure => simp [intOf]; omega
            · go_wp2_with fail
              refine (visible_any _ _ u0 u1).mono ?_
              rintro e w' ⟨rfl, rfl⟩
              rw [HV.out]
              go_wp2_with fail
              refine (bld_WriteByte w.heap.size w.heap.size _ 92 _ (.inr HB.out) (by rw [cellsLen]; omega) hwz).mono ?_
              rintro e w3 ⟨rfl, hbd, hb3, _⟩
              have HB3 := Lib.hid hbd
              have hbr3 := hbr.trans hb3
              clear hbd hb3
              go_wp2_with fail
              refine (bld_WriteByte w.heap.size w.heap.size _ _ _ (.inr HB3.out) (by rw [List.length_append, cellsLen]; simp; omega) hbr3.size).mono ?_
              rintro e w4 ⟨rfl, hbd, hb4, _⟩
              have HB4 : Hid (Lib.BuilderAt 52 5 w.heap.size w.heap.size (.pointer (some ⟨w.heap.size, 0, none⟩)) (Lib.byteCells (quotePre s (k + 1))) w4) := by
                show Lib.BuilderAt _ _ _ _ _ _ _
                rw [HN.out, He'.out, Lib.byteCells_append]
                rw [List.append_assoc] at hbd; exact hbd
              clear hbd
              go_wp2_with fail
              go_round
              case rel => exact ⟨⟨k + 1, by omega, by go_num, hA', HB4⟩, hbr3.trans hb4⟩
              case measure => simp [intOf]; omega
        · have hA' : Hid ((s.data.toList.take (k + 1)).all visB = true) := by show _ = _; rw [HA.out, hall.out, Hv'.out]; rfl
          go_wp2_with fail
          refine (bld_WriteString w.heap.size w.heap.size _ ⟨#[92, 110]⟩ _ (.inr HB.out) (by rw [cellsLen]; have e : (ByteArray.mk #[92, 110]).size = 2 := rfl; omega) hwz).mono ?_
          rintro e w3 ⟨rfl, hbd, hb3, _⟩
          have HB3 : Hid (Lib.BuilderAt 52 5 w.heap.size w.heap.size (.pointer (some ⟨w.heap.size, 0, none⟩)) (Lib.byteCells (quotePre s (k + 1))) w3) := by
            show Lib.BuilderAt _ _ _ _ _ _ _
            rw [HN.out, He'.out, Lib.byteCells_append]; exact hbd
          clear hbd
          go_wp2_with fail
          go_round
          case rel => exact ⟨⟨k + 1, by omega, by go_num, hA', HB3⟩, hbr.trans hb3⟩
          case measure => simp [intOf]; omega
      · have hks : k = s.size := by omega
        have hall' : s.data.toList.all visB = true := by
          have := hall.out
          rw [List.take_of_length_le (by simp; omega)] at this
          exact this
        have Hg := Lib.hid (quote_good s hs hall')
        have hpe : Lib.byteCells (quotePre s k) ++ [Value.int .u8 34] = Lib.byteCells (quoteU s) := by
          unfold quotePre quoteU
          rw [List.take_of_length_le (by simp; omega)]
          rw [show (34 :: (s.data.toList.flatMap escU ++ [34])) = (34 :: s.data.toList.flatMap escU) ++ [34] from rfl, Lib.byteCells_append]; rfl
        clear hall hall'
        go_wp2_with fail
        refine (bld_WriteByte w.heap.size w.heap.size _ 34 _ (.inr HB.out) (by rw [cellsLen]; omega) hwz).mono ?_
        rintro e w3 ⟨rfl, hbd, hb3, _⟩
        rw [hpe] at hbd
        have HB3 := Lib.hid hbd
        have hbr3 := hbr.trans hb3
        clear hbd hb3 hpe
        go_wp2_with fail
        refine (Tryz.Builder_String_any _ _ (quoteU s) _ (.inr HB3.out) hbr3.size).mono ?_
        rintro e w4 ⟨rfl, hb4⟩
        go_wp2_with fail
        go_ret2
        exact ⟨by rw [Hg.out]; rfl, hbr3.trans hb4⟩
theorem quoted_any (s : ByteArray) : QuotedOk s := fun w => by
  have H := quote_any s w
  unfold QuoteOk at H
  have hq : ((quoteT s).2 == 0) = quotedB s := by
    unfold quoteT quotedB
    by_cases h1 : s.size ≤ 16384
    · by_cases h2 : s.data.toList.all visB = true
      · rw [if_pos h1, if_pos h2, h2]; simp [h1]
      · rw [if_pos h1, if_neg h2]; simp only [Bool.not_eq_true] at h2; rw [h2]; simp
    · rw [if_neg h1]; simp [h1]
  have HQ := Lib.hid hq
  generalize (quoteT s).2 = r at *
  have HH := Lib.hid H
  clear H hq
  go_enter Tryz.func33, Tryz.ntmps33
  go_wp2_with fail
  refine HH.out.mono ?_
  rintro e w' ⟨rfl, hb⟩
  go_wp2_with fail
  go_ret
  exact ⟨ret_bool HQ.out, hb⟩
end Go.Proofs.YtidffjlpldalpaaGreatDoor
