/- The program's instruction: the instruction of a line. -/
import Derived.Test.YtidffjlpldalpaaGreatDoorT25
import Derived.Lib.CutLaws
set_option linter.unusedVariables false
set_option linter.unusedSimpArgs false
namespace Go.Proofs.YtidffjlpldalpaaGreatDoor
open Go Go.RowKit

def restK (x : List UInt8) : LineK := if opU ((spl 32 x).headD []) = 0 then .bad else insU' (opU ((spl 32 x).headD [])) (numsU (spl 32 x).tail)
def InsAns (x : List UInt8) (w : World) (e : Ending) (w' : World) : Prop :=
  ∃ (i : Ins) (ok : Bool), e = .returned (.tuple #[.agg #[.int .i64 i.op, .int .i64 i.a, .int .i64 i.b], .bool ok]) ∧ Below w.heap.size w w' ∧ restK x = if ok = true then .ins i else .bad
theorem index_one_ne (c : UInt8) : ∀ l : List UInt8, c ∉ l → Lib.index l [c] = -1
  | [], _ => rfl
  | b :: l, h => by
    have h1 : b ≠ c := fun e => h (by simp [e])
    have h2 : c ∉ l := fun e => h (by simp [e])
    have ih := index_one_ne c l h2
    have hp : ([c] : List UInt8).isPrefixOf (b :: l) = false := by simp [List.isPrefixOf, Ne.symm h1]
    unfold Lib.index
    rw [hp]; simp [ih]
theorem cut_head (L : List UInt8) : (Lib.cut L [32]).1 = (spl 32 L).headD [] := by
  unfold Lib.cut
  rcases spl_two L with ⟨h, hs⟩ | ⟨w, r, rfl, hw, hs⟩
  · rw [index_one_ne 32 L h, hs, if_neg (by decide)]; rfl
  · have hi : Lib.index (w ++ 32 :: r) [32] = w.length := by rw [Lib.index_one, indexByte_hit 32 w r hw]
    rw [hi, hs, if_pos (by omega)]
    simp
/-- Word after word: none before the j-th is it. -/
def NoWord (f : List UInt8) (j : Nat) : Prop := ∀ k : Nat, 1 ≤ k → k < j → wordU (k : Int) ≠ f
theorem noWord_end (f : List UInt8) (h : NoWord f 17) : opU f = 0 := by
  by_cases h0 : opU f = 0
  · exact h0
  · exfalso
    obtain ⟨h1, h2, h3⟩ := opU_inv h0
    have e : ((opU f).toNat : Int) = opU f := by omega
    exact h (opU f).toNat (by omega) (by omega) (by rw [e]; exact h3)
theorem noWord_next (f : List UInt8) (j : Nat) (h : NoWord f j) (hj : j = 0 ∨ wordU (j : Int) ≠ f) : NoWord f (j + 1) := fun k h1 h2 => by
  by_cases e : k = j
  · subst e
    rcases hj with hj | hj
    · omega
    · exact hj
  · exact h k h1 (by omega)
theorem insU_yes (op : Int) (m : Nat) (hm : opnds op = m) (ns : List Int) (h : ns.length = m) : insU' op (some ns) = .ins ⟨op, ns.getD 0 0, ns.getD 1 0⟩ := by
  unfold insU'
  simp only
  rw [if_pos (by rw [h, hm])]
theorem insU_no (op : Int) (m : Nat) (hm : opnds op = m) (A : Option (List Int)) (h : ∀ ns, A = some ns → ns.length ≠ m) : insU' op A = .bad := by
  unfold insU'
  cases A with
  | none => rfl
  | some ns => simp only; rw [if_neg (by rw [hm]; have := h ns rfl; omega)]
theorem words_row (j : Nat) (hj : j < 17) : ∃ (S : ByteArray) (m : Nat), m ≤ 2 ∧ (1 ≤ j → S.data.toList = wordU (j : Int) ∧ opnds (j : Int) = (m : Int)) ∧ ∀ w, (Instr.index 61 (.agg wordsC) (.int .i64 (j : Int))).run Tryz.prog w = .ok (.agg #[.string S, .int .i64 m]) w := by
  rcases (by omega : j = 0 ∨ j = 1 ∨ j = 2 ∨ j = 3 ∨ j = 4 ∨ j = 5 ∨ j = 6 ∨ j = 7 ∨ j = 8 ∨ j = 9 ∨ j = 10 ∨ j = 11 ∨ j = 12 ∨ j = 13 ∨ j = 14 ∨ j = 15 ∨ j = 16) with rfl | rfl | rfl | rfl | rfl | rfl | rfl | rfl | rfl | rfl | rfl | rfl | rfl | rfl | rfl | rfl | rfl
  · exact ⟨⟨#[]⟩, 0, by decide, fun h => absurd h (by decide), fun w => by kernel_rfl⟩
  · exact ⟨wordS 1, 1, by decide, fun _ => ⟨rfl, rfl⟩, fun w => by kernel_rfl⟩
  · exact ⟨wordS 2, 1, by decide, fun _ => ⟨rfl, rfl⟩, fun w => by kernel_rfl⟩
  · exact ⟨wordS 3, 1, by decide, fun _ => ⟨rfl, rfl⟩, fun w => by kernel_rfl⟩
  · exact ⟨wordS 4, 1, by decide, fun _ => ⟨rfl, rfl⟩, fun w => by kernel_rfl⟩
  · exact ⟨wordS 5, 1, by decide, fun _ => ⟨rfl, rfl⟩, fun w => by kernel_rfl⟩
  · exact ⟨wordS 6, 0, by decide, fun _ => ⟨rfl, rfl⟩, fun w => by kernel_rfl⟩
  · exact ⟨wordS 7, 2, by decide, fun _ => ⟨rfl, rfl⟩, fun w => by kernel_rfl⟩
  · exact ⟨wordS 8, 0, by decide, fun _ => ⟨rfl, rfl⟩, fun w => by kernel_rfl⟩
  · exact ⟨wordS 9, 0, by decide, fun _ => ⟨rfl, rfl⟩, fun w => by kernel_rfl⟩
  · exact ⟨wordS 10, 1, by decide, fun _ => ⟨rfl, rfl⟩, fun w => by kernel_rfl⟩
  · exact ⟨wordS 11, 1, by decide, fun _ => ⟨rfl, rfl⟩, fun w => by kernel_rfl⟩
  · exact ⟨wordS 12, 1, by decide, fun _ => ⟨rfl, rfl⟩, fun w => by kernel_rfl⟩
  · exact ⟨wordS 13, 2, by decide, fun _ => ⟨rfl, rfl⟩, fun w => by kernel_rfl⟩
  · exact ⟨wordS 14, 1, by decide, fun _ => ⟨rfl, rfl⟩, fun w => by kernel_rfl⟩
  · exact ⟨wordS 15, 1, by decide, fun _ => ⟨rfl, rfl⟩, fun w => by kernel_rfl⟩
  · exact ⟨wordS 16, 1, by decide, fun _ => ⟨rfl, rfl⟩, fun w => by kernel_rfl⟩
theorem set3I {V : World} {R : Nat} {x y z : Value} (h : V.heap[R]? = some (.cells #[x, y, z] 64 (0, 0))) (a b c : Value) : (((V.setCell ⟨R, 0, none⟩ a).setCell ⟨R, 1, none⟩ b).setCell ⟨R, 2, none⟩ c).heap[R]? = some (.cells #[a, b, c] 64 (0, 0)) ∧ V.grownBy (((V.setCell ⟨R, 0, none⟩ a).setCell ⟨R, 1, none⟩ b).setCell ⟨R, 2, none⟩ c) (some R) :=
  ⟨heap_set_same (heap_set_same (heap_set_same h _) _) _, grown_both (grown_both (grown_set V R 0 a) (grown_set _ R 1 b)) (grown_set _ R 2 c)⟩
theorem instr_info : (Tryz.prog.info? 64).map (·.size) = some 3 := by kernel_rfl
set_option maxHeartbeats 2000000 in
set_option maxRecDepth 100000 in
theorem instruction_any (s : ByteArray) (w : World) (hE : EnvN w) (hs : s.size ≤ 1000000) :
    Calls Tryz.prog 68 #[.string s] w (InsAns s.data.toList w) := by
  obtain ⟨m0, hm0⟩ := hE.ml
  have hb0 : Below w.heap.size w (w.alloc (.cells #[.int .i64 0, .int .i64 0, .int .i64 0] 64)) := (Below.refl _ _).alloc (Nat.le_refl _) _
  have HC := Lib.hid (Tryz.strings_Cut s ⟨#[32]⟩ m0 (w.alloc (.cells #[.int .i64 0, .int .i64 0, .int .i64 0] 64)) (by omega) ((hb0.cell (p := ⟨1, 0, none⟩) hE.sz).trans hm0))
  have hR0 : (w.alloc (.cells #[.int .i64 0, .int .i64 0, .int .i64 0] 64)).heap[w.heap.size]? = some (.cells #[.int .i64 0, .int .i64 0, .int .i64 0] 64 (0, 0)) := new_heap w _
  have hzz : (w.alloc (.cells #[.int .i64 0, .int .i64 0, .int .i64 0] 64)).heap.size = w.heap.size + 1 := by simp
  obtain ⟨i0, hii, hiz0, hiz1, hiz2⟩ := info_parts info_int
  obtain ⟨f, hf⟩ : ∃ f, (spl 32 s.data.toList).headD [] = f := ⟨_, rfl⟩
  have hcf : (Lib.cut s.data.toList (⟨#[32]⟩ : ByteArray).data.toList).1 = f := (cut_head _).trans hf
  rw [hcf] at HC
  have Hf := Lib.hid hf
  clear hf hcf hm0
  go_enter Tryz.func68, Tryz.ntmps68
  go_wp2_with fail
  generalize w.alloc (.cells #[.int .i64 0, .int .i64 0, .int .i64 0] 64) = W0 at *
  refine HC.out.mono ?_
  rintro e w1 ⟨rfl, q, hq⟩
  have hb1 : Below W0.heap.size W0 w1 := by rw [hq]; exact bdrewN (Below.refl _ _) q
  have hR1 := (hb1.block _ (heap_lt hR0)).trans hR0
  have hbb1 := hb0.trans (hb1.mono hb0.size)
  have hE1 := hE.below hbb1
  have hz1 : w.heap.size + 1 ≤ w1.heap.size := by have := hb1.size; omega
  clear HC hq hb1 hR0 hb0
  go_wp2_with fail
  refine (words_any _).mono ?_
  rintro e w2 ⟨rfl, hb2⟩
  have hR2 := (hb2.block _ (heap_lt hR1)).trans hR1
  have hbb2 := hbb1.trans (hb2.mono hbb1.size)
  have hE2 := hE1.below hb2
  have hz2 : w.heap.size + 1 ≤ w2.heap.size := by have := hb2.size; omega
  have HR2 := Lib.hid hR2
  have HB2 := Lib.hid hbb2
  clear hR1 hbb1 hE1 hb2 hR2 hbb2
  go_wp2_with fail
  go_loopw [18] (fun i wr => ∃ j : Nat, j ≤ 17 ∧ i = .int .i64 j ∧ Hid (NoWord f j) ∧ Below w2.heap.size w2 wr) (fun i _ => 17 - (intOf i).toNat)
  case atStart => exact ⟨0, by decide, rfl, fun k h1 h2 => absurd h2 (by omega), Below.refl _ _⟩
  case round =>
    rename World => V
    obtain ⟨j, hj, rfl, HNW, hbr⟩ := hrel
    have hER := hE2.below hbr
    have hRV := (hbr.block _ (heap_lt HR2.out)).trans HR2.out
    have hzV := hbr.size
    by_cases hj17 : j < 17
    · obtain ⟨S, m, hm2, hS, hix⟩ := words_row j hj17
      by_cases hj0 : j = 0
      · have hN := Lib.hid (noWord_next f j HNW.out (.inl hj0))
        subst hj0
        have hix0 : ∀ w, (Instr.index 61 (.agg wordsC) (.int .i64 0)).run Tryz.prog w = .ok (.agg #[.string S, .int .i64 m]) w := hix
        clear hix hS
        go_wp2_with fail
        go_roundw
        case rel => exact ⟨1, by decide, rfl, hN, hbr.alloc hzV _⟩
        case measure => simp [intOf]
      · obtain ⟨hS1, hop⟩ := hS (by omega)
        by_cases hSf : S.data.toList = f
        · have hSe : (S.toList == f) = true := by rw [Go.ByteArray.toList_eq, hSf, beq_self_eq_true]
          have hj1 : ((j : Int) == 0) = false := beq_eq_false_iff_ne.2 (by omega)
          have hbA : Below w2.heap.size w2 (V.alloc (.cells #[.string S, .int .i64 m] 60)) := hbr.alloc hzV _
          have hRA := (hbA.block _ (heap_lt HR2.out)).trans HR2.out
          have HN := Lib.hid (numbers_any s m _ (hE2.below hbA) hs (by omega))
          have hOp : Hid (opU f = (j : Int)) := by show _ = _; rw [← hSf, hS1]; exact (opU_word (j : Int) (by omega) (by omega)).1
          have HK : Hid (restK s.data.toList = insU' (j : Int) (numsU (spl 32 s.data.toList).tail)) := by show restK _ = _; unfold restK; rw [Hf.out, hOp.out, if_neg (by omega)]
          have hzA := hbA.size
          have hzB : (V.alloc (.cells #[.string S, .int .i64 m] 60)).heap.size = V.heap.size + 1 := by simp
          clear hSf hS1 HNW hOp hER hRV
          go_wp2_with fail
          refine HN.out.mono ?_
          clear HN
          rintro e w5 ⟨v, ok, rfl, hb5, hy, hx⟩
          have hbC := hbA.trans (hb5.mono hzA)
          have hR5 := (hb5.block _ (heap_lt hRA)).trans hRA
          have hz5 := hbC.size
          obtain ⟨ns, hOw, hAns⟩ : ∃ ns : List Int, w5.ownsRow w2.heap.size 3 1 v ns.length (ints ns) ∧ ns.length ≤ 2 ∧ restK s.data.toList = if ok = true then .ins ⟨(j : Int), (ns ++ [0, 0]).getD 0 0, (ns ++ [0, 0]).getD 1 0⟩ else .bad := by
            cases ok
            · obtain ⟨rfl, hn⟩ := hx rfl
              exact ⟨[], ⟨rfl, .inl ⟨rfl, rfl⟩⟩, by simp, by rw [HK.out, insU_no (j : Int) m hop _ hn]; rfl⟩
            · obtain ⟨ns, hn, hl, hO⟩ := hy rfl
              refine ⟨ns, by rw [hl]; exact ownsRow_mono hO hzA, by omega, ?_⟩
              rw [HK.out, hn, insU_yes (j : Int) m hop ns hl, if_pos rfl]
              congr 2
              · cases ns <;> rfl
              · rcases ns with _ | ⟨a, _ | ⟨b, r⟩⟩ <;> rfl
          have HO := Lib.hid hOw
          have HAns := Lib.hid hAns.2
          have hnl := hAns.1
          have HBC := Lib.hid hbC
          have HR5 := Lib.hid hR5
          obtain ⟨va, vm, vc, rfl⟩ := owns_slice hOw
          clear hy hx hOw hAns hb5 hbC hR5 hRA hbA HK
          go_wp2_with (at_builtin; refine wpList_append_lies _ rfl _ _ 65 rfl w2.heap.size 3 i0 (.int .i64 0) 1 8 Tryz.underlying65 hii hiz0 hiz1 hiz2 rfl (by decide) _ ns.length (ints ns) rfl (HO.out.alloc _) ⟨w5.heap.size, 0, none⟩ 2 2 [.int .i64 0, .int .i64 0] rfl rfl ?c1 ?c2 (by decide) ?c3 ?c4 ?c5 _ rfl ?_)
          case c1 => exact World.news_of_block (cs := #[.int .i64 0, .int .i64 0]) (new_heap w5 _)
          case c2 => intro u hu; simp at hu; subst hu; rfl
          case c3 => unfold maxLen; omega
          case c4 => omega
          case c5 => simp; omega
          intro g cap w7 hown7 hgrow7 hat7 hlt7
          have hg5 := grown_alloc w5 (.cells #[.int .i64 0, .int .i64 0] 3)
          have hR7 := (hgrow7.block _ (by have := heap_lt HR5.out; simp; omega) (fun e => by have := (owns_lt HO.out _ e.symm).1; omega)).trans ((hg5.block _ (heap_lt HR5.out) (by nofun)).trans HR5.out)
          have hbD := (HBC.out.trans ((grown_under hg5 (Nat.le_refl _) (by nofun)).mono hz5)).trans (grown_under hgrow7 (by simp; omega) (fun q hq => (owns_lt HO.out q hq).1))
          have hn2 : ns.length + 2 = (ns ++ [0, 0]).length := by simp
          have happ : ints ns ++ [Value.int .i64 0, .int .i64 0] = ints (ns ++ [0, 0]) := by simp [ints]
          have hc : ∀ k, k < ns.length + 2 → w7.cell? ⟨g, k, none⟩ = some (.int .i64 ((ns ++ [0, 0]).getD k 0)) := fun k hk => by
            obtain ⟨a, c, hv, _, hcell⟩ := isRow_owns hown7
            obtain ⟨b, off, rfl, _, hx⟩ := hcell (by omega)
            have hv' := (Value.slice.inj hv).1
            simp at hv'
            obtain ⟨rfl, rfl⟩ := hv'
            have := hx k (by rw [happ, ints_length]; omega)
            rw [Nat.zero_add] at this
            rw [this, happ, ints_at _ _ (by omega)]
          have d0 := hc 0 (by omega)
          have d1 := hc 1 (by omega)
          obtain ⟨r0, r1, r2⟩ := ins_cells hR7
          have fz0 : w7.frozen? ⟨w.heap.size, 0, none⟩ = false := Lib.frozen_of_heap hR7 0
          have fz1 : w7.frozen? ⟨w.heap.size, 1, none⟩ = false := Lib.frozen_of_heap hR7 1
          have fz2 : w7.frozen? ⟨w.heap.size, 2, none⟩ = false := Lib.frozen_of_heap hR7 2
          generalize (ns ++ [0, 0]).getD 0 0 = x0 at *
          generalize (ns ++ [0, 0]).getD 1 0 = x1 at *
          obtain ⟨hR9, hg9⟩ := set3I hR7 (.int .i64 (j : Int)) (.int .i64 x0) (.int .i64 x1)
          have HB9 := Lib.hid ((HB2.out.trans (hbD.mono HB2.out.size)).trans (grown_under hg9 (by have := hbD.size; omega) (fun z hz => by cases hz; exact Nat.le_refl _))).drew
          have HR9 : Hid ((((w7.setCell ⟨w.heap.size, 0, none⟩ (.int .i64 (j : Int))).setCell ⟨w.heap.size, 1, none⟩ (.int .i64 x0)).setCell ⟨w.heap.size, 2, none⟩ (.int .i64 x1)).drew.heap[w.heap.size]? = some (.cells #[.int .i64 (j : Int), .int .i64 x0, .int .i64 x1] 64 (0, 0))) := hR9
          clear hown7 hgrow7 hat7 hg5 hbD hc hR9 hg9 happ hn2 HO hR7
          go_upto_region 8 with fail
          go_region
          all_goals go_wp2_with fail
          all_goals
            refine bodyPost_ret (v := .tuple #[.agg #[.int .i64 (j : Int), .int .i64 x0, .int .i64 x1], .bool ok]) ?_ rfl ⟨⟨(j : Int), x0, x1⟩, ok, rfl, HB9.out, HAns.out⟩
            rw [results_cell_tmp (p := 2) (u := 3) (ty := 64) rfl]
            simp [asAddr, run_loadVar_row _ _ _ _ _ _ _ HR9.out Tryz.underlying64 rfl instr_info, Result.andThen]
        · have hSe : (S.toList == f) = false := beq_eq_false_iff_ne.2 (fun e => hSf (by rw [← e, Go.ByteArray.toList_eq]))
          have hj1 : ((j : Int) == 0) = false := beq_eq_false_iff_ne.2 (by omega)
          have hN := Lib.hid (noWord_next f j HNW.out (.inr (by rw [← hS1]; exact hSf)))
          clear hSf hS1
          go_wp2_with fail
          go_roundw
          case rel => exact ⟨j + 1, by omega, by go_num, hN, hbr.alloc hzV _⟩
          case measure => simp [intOf]; omega
    · obtain rfl : j = 17 := by omega
      have HK : Hid (restK s.data.toList = .bad) := by show restK _ = _; unfold restK; rw [Hf.out, if_pos (noWord_end f HNW.out)]
      obtain ⟨r0, r1, r2⟩ := ins_cells hRV
      have fz0 : V.frozen? ⟨w.heap.size, 0, none⟩ = false := Lib.frozen_of_heap hRV 0
      have fz1 : V.frozen? ⟨w.heap.size, 1, none⟩ = false := Lib.frozen_of_heap hRV 1
      have fz2 : V.frozen? ⟨w.heap.size, 2, none⟩ = false := Lib.frozen_of_heap hRV 2
      obtain ⟨hR9, hg9⟩ := set3I hRV (.int .i64 0) (.int .i64 0) (.int .i64 0)
      have HB9 := Lib.hid ((HB2.out.trans (hbr.mono HB2.out.size)).trans (grown_under hg9 (by omega) (fun z hz => by cases hz; exact Nat.le_refl _)))
      have HR9 := Lib.hid hR9
      clear HNW hR9 hg9
      go_wp2_with fail
      refine bodyPost_ret (v := .tuple #[.agg #[.int .i64 0, .int .i64 0, .int .i64 0], .bool false]) ?_ rfl ⟨⟨0, 0, 0⟩, false, rfl, HB9.out, HK.out⟩
      rw [results_cell_tmp (p := 2) (u := 3) (ty := 64) rfl]
      simp [asAddr, run_loadVar_row _ _ _ _ _ _ _ HR9.out Tryz.underlying64 rfl instr_info, Result.andThen]
end Go.Proofs.YtidffjlpldalpaaGreatDoor
