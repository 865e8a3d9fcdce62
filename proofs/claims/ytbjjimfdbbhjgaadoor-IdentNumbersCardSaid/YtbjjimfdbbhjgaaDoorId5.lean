/- The references of Label and Split; IsVar, IsLabel. -/
import Derived.Test.YtbjjimfdbbhjgaaDoorId4
namespace Go.Proofs.YtbjjimfdbbhjgaaDoor
open Go Go.RowKit

def headL : List ByteArray := [⟨#[]⟩, ⟨#[118, 97, 108, 46]⟩, ⟨#[116, 121, 112, 101, 46]⟩, ⟨#[99, 111, 110, 46]⟩, ⟨#[109, 111, 100, 46]⟩, ⟨#[115, 105, 103, 46]⟩]
theorem headL_at (k : Nat) (h1 : 1 ≤ k) (h5 : k ≤ 5) : headL.getD k ByteArray.empty = ⟨(preB k).toArray⟩ := by
  obtain rfl | rfl | rfl | rfl | rfl : k = 1 ∨ k = 2 ∨ k = 3 ∨ k = 4 ∨ k = 5 := by omega
  all_goals rfl

theorem heads_any (w : World) :
    Calls Tryd.prog 42 #[] w fun e w' => e = .returned (.slice (some ⟨w.heap.size, 0, none⟩) 6 6) ∧ w' = w.alloc (.cells (headL.map Value.string).toArray 9) := by
  go_enter Tryd.func42, Tryd.ntmps42
  go_wp2
  go_ret
  exact ⟨rfl, rfl⟩

theorem heads_cell (w w' : World) (hw : w' = w.alloc (.cells (headL.map Value.string).toArray 9)) (k : Nat) (h1 : 1 ≤ k) (h5 : k ≤ 5) : w'.cell? ⟨w.heap.size, k, none⟩ = some (.string ⟨(preB k).toArray⟩) := by
  rw [hw, cell_new, ← headL_at k h1 h5]
  obtain rfl | rfl | rfl | rfl | rfl : k = 1 ∨ k = 2 ∨ k = 3 ∨ k = 4 ∨ k = 5 := by omega
  all_goals rfl

theorem rLabel_any (k : Nat) (s : ByteArray) (w : World) (h1 : 1 ≤ k) (h5 : k ≤ 5) (hs : s.size ≤ 1000) :
    Calls Tryd.prog 14 #[.int .i64 k, .string s] w fun e w' => e = .returned (st (preB k ++ bs s)) ∧ Below w.heap.size w w' := by
  have hpl := preB_len k
  go_enter Tryd.func14, Tryd.ntmps14
  go_wp2_with fail
  refine (heads_any _).mono ?_
  rintro e w' ⟨rfl, hw⟩
  have hc := heads_cell w w' hw k h1 h5
  have hb : Below w.heap.size w w' := by rw [hw]; exact (Below.refl _ _).alloc (Nat.le_refl _) _
  clear hw
  have hsum : ¬ 9223372036854775807 < (preB (k : Int)).length + s.size := by omega
  go_wp2_with fail
  go_ret
  refine ⟨?_, hb⟩
  unfold st
  rw [← ba_app]
  rfl

theorem bdrewN {B : Nat} {a w : World} (h : Below B a w) (n : Nat) : Below B a (w.drewN n) := h.trans ⟨rfl, rfl, rfl, Nat.le_refl _, fun _ _ => rfl⟩
def rsplV (s : ByteArray) : Value := .tuple #[.int .i64 (splK s), st (if splK s = 0 then [] else (bs s).drop (preB (splK s)).length)]

theorem upB_nil : upB [] = false := rfl
theorem lowB_nil : lowB ⟨#[]⟩ = false := by decide +kernel
theorem fitB_nil (k : Int) : fitB k ⟨#[]⟩ = false := by unfold fitB; split <;> first | exact lowB_nil | exact upB_nil
theorem split1_short (k : Int) (s : ByteArray) (h : s.size ≤ (preB k).length) : split1 k s = false := by
  unfold split1
  rw [List.drop_eq_nil_of_le (by rw [bs_length]; exact h)]
  show (_ && fitB k ⟨#[]⟩) = false
  rw [fitB_nil, Bool.and_false]
theorem pre_take (l p : List UInt8) : Lib.hasPrefix l p = decide (l.take p.length = p) := by
  unfold Lib.hasPrefix
  rw [Bool.eq_iff_iff, List.isPrefixOf_iff_prefix, decide_eq_true_iff, List.prefix_iff_eq_take]
  exact eq_comm
theorem take_ext (s : ByteArray) (n : Nat) : bs (s.extract 0 n) = (bs s).take n := by
  unfold bs; rw [Lib.extract_data]; simp
theorem drop_ext (s : ByteArray) (n : Nat) : s.extract n s.size = ⟨((bs s).drop n).toArray⟩ := by
  have h : (s.extract n s.size).data.toList = (bs s).drop n := by
    rw [Lib.extract_data]; unfold bs
    rw [List.take_of_length_le (by rw [List.length_drop]; have := bs_length s; unfold bs at this; omega)]
  generalize s.extract n s.size = t at h
  rw [← h]

set_option maxRecDepth 100000 in
theorem rsplit_any (s : ByteArray) (w : World) (hs : s.size ≤ 1000) :
    Calls Tryd.prog 15 #[.string s] w fun e w' => e = .returned (rsplV s) ∧ Below w.heap.size w w' := by
  go_enter Tryd.func15, Tryd.ntmps15
  go_wp2_with fail
  refine (heads_any _).mono ?_
  rintro e w1 ⟨rfl, hw⟩
  have Hc : Hid (∀ k : Nat, 1 ≤ k → k ≤ 5 → w1.cell? ⟨w.heap.size, k, none⟩ = some (.string ⟨(preB k).toArray⟩)) := fun k a b => heads_cell w w1 hw k a b
  have hb : Below w.heap.size w w1 := by rw [hw]; exact (Below.refl _ _).alloc (Nat.le_refl _) _
  have hz : w.heap.size < w1.heap.size := by rw [hw]; simp
  clear hw
  go_wp2_with fail
  go_loopw [5] (fun i wr => ∃ k : Nat, 1 ≤ k ∧ k ≤ 6 ∧ i = .int .i64 k ∧ Hid (∀ j : Nat, 1 ≤ j → j < k → split1 j s = false) ∧ Below w1.heap.size w1 wr) (fun i _ => 6 - (intOf i).toNat)
  case atStart => exact ⟨1, by omega, by omega, rfl, fun j h1 h2 => absurd h2 (by omega), Below.refl _ _⟩
  case round =>
    obtain ⟨k, hk1, hk6, rfl, hno, hbr⟩ := hrel
    have hbr' : Below w.heap.size w wr := hb.trans (hbr.mono hb.size)
    by_cases hlt : k ≤ 5
    · have hc : wr.cell? ⟨w.heap.size, k, none⟩ = some (.string ⟨(preB k).toArray⟩) := by rw [hbr.cell (p := ⟨w.heap.size, k, none⟩) hz]; exact Hc.out k hk1 hlt
      have hpl := preB_len k
      obtain ⟨p, hp⟩ : ∃ p, p = preB (k : Int) := ⟨_, rfl⟩
      rw [← hp] at hc hpl
      have Hp := Lib.hid hp
      clear hp
      by_cases hA : p.length < s.size
      · have hd1 : (p.length : Int) < (s.size : Int) := by omega
        have hle : p.length ≤ s.size := by omega
        by_cases hB : s.extract 0 p.length = ⟨p.toArray⟩
        · have hq : ((s.extract 0 p.length).toList == p) = true := by rw [hB]; simp
          have Hq := Lib.hid hq
          clear hB
          go_wp2_with fail
          have hc2 : World.cell? { heap := wr.heap, tape := wr.tape, drawn := wr.drawn + 1, os := wr.os, output := wr.output } ⟨w.heap.size, k, none⟩ = some (.string ⟨p.toArray⟩) := hc
          go_still_tail 19, (by kernel_rfl)
          change wpList _ _ _ _ _ wr.drew
          have hbw : Below w.heap.size w wr.drew := bdrewN hbr' 1
          have hbw1 : Below w1.heap.size w1 wr.drew := bdrewN hbr 1
          generalize wr.drew = w2 at hbw hbw1 ⊢
          have hs1 : split1 k s = fitB k (s.extract p.length s.size) := by
            unfold split1
            rw [drop_ext, ← Hp.out, pre_take, ← take_ext]
            have : (decide (bs (s.extract 0 p.length) = p)) = true := by
              rw [decide_eq_true_iff]
              have := eq_of_beq Hq.out
              rw [Go.ByteArray.toList_eq] at this
              exact this
            rw [this]; rfl
          have hsk : split1 k s = true → splK s = k ∧ (k : Int) ≠ 0 := fun h => ⟨splK_first s k hk1 hlt hno.out h, by omega⟩
          have hN : split1 k s = false → Hid (∀ j : Nat, 1 ≤ j → j < k + 1 → split1 j s = false) := fun hf j h1 h2 => by
            by_cases e : j = k
            · rw [e]; exact hf
            · exact hno.out j h1 (by omega)
          have HHk := Lib.hid hsk
          have Hs1 := Lib.hid hs1
          have HN := Lib.hid hN
          clear hsk hs1 hc2 hN
          have hsz : (s.extract p.length s.size).size ≤ 1000 := by simp; omega
          go_wp2_with fail
          refine (rFits_any _ _ _ hsz).mono ?_
          rintro e w' ⟨rfl, hb2⟩
          rw [← Hs1.out]
          obtain ⟨bb, hbb⟩ : ∃ bb, split1 k s = bb := ⟨_, rfl⟩
          have Hb2 := Lib.hid hbb
          rw [hbb]
          clear hbb
          have hf1 : Below w.heap.size w w' := hbw.trans (hb2.mono hbw.size)
          have hf2 : Below w1.heap.size w1 w' := hbw1.trans (hb2.mono hbw1.size)
          cases bb
          · have hN := HN.out Hb2.out
            go_wp2_with fail
            go_roundw
            case rel => exact ⟨k + 1, by omega, by omega, by go_num, hN, hf2⟩
            case measure => simp [intOf]; omega
          · go_wp2_with fail
            go_quiet (fail)
            go_wp2_with fail
            go_ret2
            refine ⟨?_, bdrewN hf1 _⟩
            obtain ⟨e1, e2⟩ := HHk.out Hb2.out
            unfold rsplV
            rw [e1, if_neg e2, ← Hp.out]
            unfold st
            rw [← drop_ext]
            rfl
        · have hq : ((s.extract 0 p.length).toList == p) = false := by
            cases hx : ((s.extract 0 p.length).toList == p)
            · rfl
            · exfalso; apply hB
              have := eq_of_beq hx
              rw [Go.ByteArray.toList_eq] at this
              generalize s.extract 0 p.length = t at this ⊢
              rw [← this]
          have hf : split1 k s = false := by
            unfold split1
            rw [← Hp.out, pre_take, ← take_ext]
            have : (decide (bs (s.extract 0 p.length) = p)) = false := by
              rw [decide_eq_false_iff_not]; intro hx; apply hB; unfold bs at hx; clear hq; generalize s.extract 0 p.length = t at hx ⊢; rw [← hx]
            rw [this]; rfl
          have hN : Hid (∀ j : Nat, 1 ≤ j → j < k + 1 → split1 j s = false) := fun j h1 h2 => by
            by_cases e : j = k
            · rw [e]; exact hf
            · exact hno.out j h1 (by omega)
          clear hf hB
          go_wp2_with fail
          go_quiet (fail)
          go_wp2_with fail
          go_roundw
          case rel => exact ⟨k + 1, by omega, by omega, by go_num, hN, bdrewN hbr _⟩
          case measure => simp [intOf]; omega
      · have hd1 : decide ((p.length : Int) < (s.size : Int)) = false := by simp; omega
        have hf : split1 k s = false := split1_short k s (by rw [← Hp.out]; omega)
        have hN : Hid (∀ j : Nat, 1 ≤ j → j < k + 1 → split1 j s = false) := fun j h1 h2 => by
          by_cases e : j = k
          · rw [e]; exact hf
          · exact hno.out j h1 (by omega)
        clear hf
        go_wp2_with fail
        go_quiet (fail)
        go_wp2_with fail
        go_roundw
        case rel => exact ⟨k + 1, by omega, by omega, by go_num, hN, bdrewN hbr _⟩
        case measure => simp [intOf]; omega
    · go_wp2_with fail
      go_ret2
      refine ⟨?_, hbr'⟩
      unfold rsplV
      rw [splK_none s (fun j h1 h2 => hno.out j h1 (by omega))]
      rfl
end Go.Proofs.YtbjjimfdbbhjgaaDoor
