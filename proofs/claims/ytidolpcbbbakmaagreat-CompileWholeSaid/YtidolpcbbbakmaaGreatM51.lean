/- call of the reference of layer 47: operations 11. -/
import Derived.Test.YtidolpcbbbakmaaGreatM46
namespace Go.Proofs.YtidolpcbbbakmaaGreat
open Go Go.RowKit
set_option maxRecDepth 100000 in
set_option maxHeartbeats 16000000 in
theorem arm_11 : ArmOk 11 := by
  intro p hp fuel hfu G HIH M w0 sb tv st ov V hw0 hM fop fs fl aop an asx al k fb foff fc HB hsb fdc fdd fdcode cc fla flc h7 HFO ala alc HP R L1 HOV hkp mu hmu0 rel nn wr hmu J K K1 hJ hK stk lo s o2 m he hsf t at1 ib ioff hlenF HFN hfk hrel0 hw2 ia ib2 q hat w3 hz3 hq1000 hlen a c HL hc HASH fr hfq hfr hfrom hsl2 hdl hltm v4 w4 HB4 HK4 HROW HS2 HVS hz4 hbx4 hfi HRI hq act hsz hdf hpre h15 h16
  have at0 : (0 : Int) ≤ (t : Int) := by omega
  have htop := HL.out.top
  have hpos := HL.out.pos
  have hgas := HL.out.gas
  have hsmall := HL.out.small
  obtain ⟨iV, iVhii, iVz0, iVz1, iVz2⟩ := parts_info info_valK
  have j0 : w4.cell? ⟨wr.heap.size, 0, none⟩ = some (.int .i64 11) := by simp [World.cell?, hbx4]
  have j1 : w4.cell? ⟨wr.heap.size, 1, none⟩ = some (.int .i64 ia) := by simp [World.cell?, hbx4]
  have j2 : w4.cell? ⟨wr.heap.size, 2, none⟩ = some (.int .i64 ib2) := by simp [World.cell?, hbx4]
  have HRR := Lib.hid (right_rest HRI.out)
  have heq := HL.out.eq
  rw [runP, HFN.out] at heq
  simp only at heq
  rw [if_neg (by simpa using he), if_neg (by omega), if_neg hsf, Int.toNat_natCast, hfi, hq, List.length_map, if_neg hlen, hfrom, ← List.map_drop, ← List.map_take] at heq
  have HEQ := Lib.hid heq
  clear heq hbx4
  have hsfb : (s.steps == fuel) = false := beq_eq_false_iff_ne.2 hsf
  revert hpre h15 h16
  refine act_lit act hsz hdf ?_
  clear hsz hdf act
  intro u0 u1 u2 u3 u4 u5 u6 u7 u8 u9 u10 u11 u12 u13 u14 u15 u16
  intros
  rename_i hpre h15 h16
  change [u0, u1, u2, u3, u4, u5, u6, u7, u8, u9, u10, u11] = _ at hpre
  cases hpre
  change u15 = _ at h15
  change u16 = _ at h16
  subst h15 h16
  simp only [callRest, seqR, seqL, insideC, Tryz.f29, Option.getD_some]
  have hE := HEQ.out
  simp only [show ¬ (11 : Int) = 9 by decide, show ¬ (11 : Int) = 14 by decide, show ¬ (11 : Int) = 16 by decide, show ¬ (11 : Int) = 4 by decide, show ¬ (11 : Int) = 13 by decide, show ¬ (11 : Int) = 8 by decide, show ¬ (11 : Int) = 1 by decide, show ¬ (11 : Int) = 2 by decide, show ¬ (11 : Int) = 3 by decide, show ¬ (11 : Int) = 5 by decide, show ¬ (11 : Int) = 6 by decide, show ¬ (11 : Int) = 7 by decide, show ¬ (11 : Int) = 10 by decide, show ¬ (11 : Int) = 12 by decide, if_false, if_true] at hE
  have HE := Lib.hid hE
  clear hE HEQ
  obtain rfl : q = 1 := hq.symm.trans rfl
  obtain ⟨x, hx⟩ : ∃ x, stk.drop fr = [x] := List.length_eq_one_iff.1 hdl
  rw [hx] at HROW HE
  have hxm : x ∈ stk := List.mem_of_mem_drop (by rw [hx]; exact List.mem_singleton_self x)
  have HX := Lib.hid (HVS.out x hxm)
  have HXO := Lib.hid (HL.out.stkok x hxm)
  obtain ⟨g4, off4, c4, rfl, hc4, hm4, hg4, x0, x1, x2, x3⟩ := rowV_at (l := [x]) HROW.out 0 (by simp)
  obtain ⟨xo, xn, xs, xv, xl⟩ := x
  obtain ⟨xa, xc, rfl, _⟩ := HX.out.parts.1
  simp only [Nat.zero_mul, Nat.add_zero, List.getD, List.getElem?_cons_zero, Option.getD_some, ExpD.op, ExpD.n, ExpD.s, ExpD.lv, List.length_singleton] at x0 x1 x2 x3 hc4
  simp only [List.map_cons, List.map_nil, List.headD_cons] at HE
  have hR := HRR.out.2.2.2.2.2.1 (.inl rfl)
  simp only at hR
  obtain ⟨j, rfl⟩ : ∃ j : Nat, ia = (j : Int) := ⟨ia.toNat, by omega⟩
  have hpp : pushP p (stripX (.mk fop (k : Int) fs (.slice fla fl.length flc) fl)) (lo.map stripX) [stripX (.mk xo xn xs (.slice xa xl.length xc) xl)] ⟨11, (j : Int), ib2⟩ (tick s) = (if xo = 3 ∧ (j : Int) < ((xl.length : Nat) : Int) then stripX (xl.getD j default) else default, tick s) := by unfold pushP; simp only [show ¬ (11 : Int) = 1 by decide, show ¬ (11 : Int) = 2 by decide, show ¬ (11 : Int) = 3 by decide, show ¬ (11 : Int) = 5 by decide, show ¬ (11 : Int) = 6 by decide, show ¬ (11 : Int) = 7 by decide, show ¬ (11 : Int) = 10 by decide, show ¬ (11 : Int) = 12 by decide, if_false, if_true, Int.toNat_natCast, List.headD_cons, strip_op, strip_l, List.length_map, ExpD.op, ExpD.l]; rw [show (List.map stripX xl).getD j default = stripX (xl.getD j default) from by rw [← default_strip, List.getD, List.getD, List.getElem?_map]; cases xl[j]? <;> rfl]
  rw [hpp] at HE
  clear hpp
  by_cases hgood : xo = 3 ∧ (j : Int) < ((xl.length : Nat) : Int)
  · rw [if_pos hgood] at HE
    obtain ⟨h3, hjx⟩ := hgood
    subst h3
    have hjn : j < xl.length := by omega
    obtain ⟨yb, yoff, yc, hyv, hyc, hym, hyb, l0, l1, l2, l3⟩ := rowV_at HX.out.parts.1 j hjn
    obtain ⟨rfl, _, rfl⟩ := Value.slice.inj hyv
    clear hyv
    have hyl := getD_mem default xl j hjn
    have HXL := Lib.hid (HX.out.parts.2.2 _ hyl)
    have HXOL : Hid (ValOk p (stripX (xl.getD j default))) := Lib.hid (HXO.out.all.2.2 _ (by rw [strip_l]; exact List.mem_map_of_mem hyl))
    clear hyl
    generalize xl.getD j default = y at l0 l1 l2 l3 HXL HXOL HE
    obtain ⟨yo, yn, ys, yv, yl⟩ := y
    obtain ⟨ya, yd, rfl, _⟩ := HXL.out.parts.1
    simp only [ExpD.op, ExpD.n, ExpD.s, ExpD.lv] at l0 l1 l2 l3
    have l0a := cell_alloc_some l0 (.cells #[.int .i64 0, .int .i64 0, .string ⟨#[]⟩, .slice none 0 0] 77)
    have l1a := cell_alloc_some l1 (.cells #[.int .i64 0, .int .i64 0, .string ⟨#[]⟩, .slice none 0 0] 77)
    have l2a := cell_alloc_some l2 (.cells #[.int .i64 0, .int .i64 0, .string ⟨#[]⟩, .slice none 0 0] 77)
    have l3a := cell_alloc_some l3 (.cells #[.int .i64 0, .int .i64 0, .string ⟨#[]⟩, .slice none 0 0] 77)
    have x0a := cell_alloc_some x0 (.cells #[.int .i64 0, .int .i64 0, .string ⟨#[]⟩, .slice none 0 0] 77)
    have x1a := cell_alloc_some x1 (.cells #[.int .i64 0, .int .i64 0, .string ⟨#[]⟩, .slice none 0 0] 77)
    have x2a := cell_alloc_some x2 (.cells #[.int .i64 0, .int .i64 0, .string ⟨#[]⟩, .slice none 0 0] 77)
    have x3a := cell_alloc_some x3 (.cells #[.int .i64 0, .int .i64 0, .string ⟨#[]⟩, .slice none 0 0] 77)
    have j0a := cell_alloc_some j0 (.cells #[.int .i64 0, .int .i64 0, .string ⟨#[]⟩, .slice none 0 0] 77)
    have j1a := cell_alloc_some j1 (.cells #[.int .i64 0, .int .i64 0, .string ⟨#[]⟩, .slice none 0 0] 77)
    have j2a := cell_alloc_some j2 (.cells #[.int .i64 0, .int .i64 0, .string ⟨#[]⟩, .slice none 0 0] 77)
    have g25 := both (grown_alloc w4 (.cells #[.int .i64 yo, .int .i64 yn, .string ys, .slice ya yl.length yd] 77)) (both (grown_drew _) (grown_drew _))
    have HB5 := Lib.hid (HB4.out.free g25)
    have HK5 := Lib.hid (HK4.out.trans (keepV_grown g25))
    have HX5 := Lib.hid (HXL.out.kept (keepV_grown g25))
    have HXO5 := HXOL
    clear g25
    have HT5 : Hid ((tick s).steps ≤ fuel) := Lib.hid (step_le htop hsf)
    have HS5 : Hid (s.steps + 1 ≤ (tick s).steps) := Lib.hid (Int.le_refl _)
    have HO5 : Hid ((tick s).out.length ≤ 1000) := Lib.hid HL.out.out
    have hxe : (stripX (.mk yo yn ys (.slice ya yl.length yd) yl)).op = yo := strip_op _
    have hE := HE.out
    simp only [hxe] at hE
    have hb3 : ((3 : Int) == 3) = true := rfl
    have hjd : decide ((j : Int) < ((xl.length : Nat) : Int)) = true := decide_eq_true hjx
    by_cases hx0 : yo = 0
    · rw [if_pos hx0] at hE
      have HEQ := Lib.hid hE
      subst hx0
      clear hE HE
      go_wp2_with (refine wpList_slice_of rfl _ _ _ _ _ rfl _ (hsl2 _) ?_)
      go_region
      go_wp2_with fail
      go_region
      have HSt := Lib.hid (stop47_any sb _ tv p.main fuel (tick s) o2 4 0 _ HB5.out.sst)
      go_wp2_with (first
        | (go_at_call 58; refine HSt.out.mono ?_; rintro e w2 ⟨rfl, hs2, hE2⟩; obtain ⟨n2, hP⟩ := exit_stop HB5.out hsb hs2 hE2 HEQ.out; have HP := Lib.hid hP; clear hP hs2 hE2)
        | (refine wpList_store_row rfl 77 _ _ rfl (V.heap.size + 2) nil47 rfl rfl 77 nil47 n2 info47 rfl (all_one _ rfl) ?_))
      exact bodyPost_ret (results_cell_row rfl _ _ (V.heap.size + 2) 77 _ (0, 0) _ rfl (setRow_heap _ _ _ _ _ _ n2) Tryz.underlying77 rfl info47) rfl HP.out
    · rw [if_neg hx0] at hE
      have HE5 := Lib.hid hE
      have hxb : (yo == 0) = false := beq_eq_false_iff_ne.2 hx0
      clear hE HE hxe
      have hnon : a = none → fr = 0 ∧ fr = 0 := fun e => by rcases HASH.out with ⟨_, h2⟩ | ⟨g, h2⟩; (subst h2; exact ⟨by simpa using hfr, by simpa using hfr⟩); (rw [h2] at e; cases e)
      have hrow5 := HL.out.stack.kept HK5.out
      have j0a := cell_alloc_some j0 (.cells #[.int .i64 0, .int .i64 0, .string ⟨#[]⟩, .slice none 0 0] 77)
      have j1a := cell_alloc_some j1 (.cells #[.int .i64 0, .int .i64 0, .string ⟨#[]⟩, .slice none 0 0] 77)
      have j2a := cell_alloc_some j2 (.cells #[.int .i64 0, .int .i64 0, .string ⟨#[]⟩, .slice none 0 0] 77)
      have hst4 := (eight_cells HB5.out.sst.blk).2.2.2.2.1
      have hst := (eight_cells HL.out.base.sst.blk).2.2.2.2.1
      have h1c4 : ∀ u ∈ ([.int .i64 yo, .int .i64 yn, .string ys, .slice ya yl.length yd] : List Value), u.oneCell' = true := by intro u hu; simp only [List.mem_cons, List.not_mem_nil, or_false] at hu; rcases hu with rfl | rfl | rfl | rfl <;> rfl
      go_wp2_with (refine wpList_slice_of rfl _ _ _ _ _ rfl _ (hsl2 _) ?_)
      go_region
      go_wp2_with fail
      go_region
      go_wp2_with (first
        | (refine wpList_slice_of rfl _ _ _ _ _ rfl _ (hsl2 _) ?_)
        | (at_builtin; refine wpList_append_grows _ rfl _ _ 75 rfl 77 iV (.agg nil47) 4 56 Tryz.underlying75 iVhii iVz0 iVz1 iVz2 rfl (by decide) a fr fr (expCells (stk.take fr)) rfl hnon ?d1x10 ?d2x10 _ 1 1 [.int .i64 yo, .int .i64 yn, .string ys, .slice ya yl.length yd] rfl rfl ?d3x10 h1c4 (Nat.lt_succ_self _) ?d5x10 ?d6x10 ?_))
      try case d1x10 => rw [expCells_length, List.length_take]; omega
      try case d2x10 => intro b hb j u hj; exact row_cells (rowV_sub (HL.out.stack.kept (HK5.out.trans (keepV_grown (grown_alloc _ _)))) fr hfr) hb hj
      try case d3x10 => exact World.news_of_block (cs := #[.int .i64 yo, .int .i64 yn, .string ys, .slice ya yl.length yd]) (heap_alloc_at (by simp) _)
      try case d5x10 => unfold maxLen; omega
      try case d6x10 => omega
      intro v6 w6 hown6 hgrow6
      have hj := Lib.hid (push_end HL.out HB5.out HK5.out hfr (fun b hb => Nat.lt_of_lt_of_le (hltm b hb) (by simp; omega)) HX5.out HXO5.out HE5.out HS5.out HT5.out HO5.out (by omega) (by omega) (grown_alloc _ _) (by simp) hown6 hgrow6)
      have hst6 := (eight_cells hj.out.base.sst.blk).2.2.2.2.1
      clear hown6 hgrow6
      go_wp2_with fail
      refine Handed.intro (mu _) ?_ (hJ _ _ _ ⟨rfl, rfl, rfl, (by rw [hrel0]; exact ⟨_, _, _, _, _, _, rfl, hj⟩), rfl⟩)
      rw [← hmu, hmu0]
      simp only [hst6, hst, Option.getD_some, intOf]
      exact mu_less htop hsf HS5.out
  · rw [if_neg hgood] at HE
    have hd0 : (default : ValD).op = 0 := rfl
    have hE := HE.out
    simp only [hd0, if_true] at hE
    have HEQ := Lib.hid hE
    clear hE HE hd0
    have g25 := both (grown_alloc w4 (.cells nil47 77)) (grown_drew _)
    have HB5 := Lib.hid (HB4.out.free g25)
    clear g25
    have x0a := cell_alloc_some x0 (.cells #[.int .i64 0, .int .i64 0, .string ⟨#[]⟩, .slice none 0 0] 77)
    have x1a := cell_alloc_some x1 (.cells #[.int .i64 0, .int .i64 0, .string ⟨#[]⟩, .slice none 0 0] 77)
    have x2a := cell_alloc_some x2 (.cells #[.int .i64 0, .int .i64 0, .string ⟨#[]⟩, .slice none 0 0] 77)
    have x3a := cell_alloc_some x3 (.cells #[.int .i64 0, .int .i64 0, .string ⟨#[]⟩, .slice none 0 0] 77)
    have j0a := cell_alloc_some j0 (.cells #[.int .i64 0, .int .i64 0, .string ⟨#[]⟩, .slice none 0 0] 77)
    have j1a := cell_alloc_some j1 (.cells #[.int .i64 0, .int .i64 0, .string ⟨#[]⟩, .slice none 0 0] 77)
    have j2a := cell_alloc_some j2 (.cells #[.int .i64 0, .int .i64 0, .string ⟨#[]⟩, .slice none 0 0] 77)
    by_cases h3 : xo = 3
    · subst h3
      have hjx : ¬ (j : Int) < ((xl.length : Nat) : Int) := fun h => hgood ⟨rfl, h⟩
      have hjf : ((j : Int) < ((xl.length : Nat) : Int)) = False := eq_false hjx
      have hjd : decide ((j : Int) < ((xl.length : Nat) : Int)) = false := decide_eq_false hjx
      have hb3 : ((3 : Int) == 3) = true := rfl
      go_wp2_with (refine wpList_slice_of rfl _ _ _ _ _ rfl _ (hsl2 _) ?_)
      go_region
      have HSt := Lib.hid (stop47_any sb _ tv p.main fuel (tick s) o2 4 0 _ HB5.out.sst)
      go_wp2_with (first
        | (go_at_call 58; refine HSt.out.mono ?_; rintro e w2 ⟨rfl, hs2, hE2⟩; obtain ⟨n2, hP⟩ := exit_stop HB5.out hsb hs2 hE2 HEQ.out; have HP := Lib.hid hP; clear hP hs2 hE2)
        | (refine wpList_store_row rfl 77 _ _ rfl (V.heap.size + 2) nil47 rfl rfl 77 nil47 n2 info47 rfl (all_one _ rfl) ?_))
      exact bodyPost_ret (results_cell_row rfl _ _ (V.heap.size + 2) 77 _ (0, 0) _ rfl (setRow_heap _ _ _ _ _ _ n2) Tryz.underlying77 rfl info47) rfl HP.out
    · have h3b : (xo == 3) = false := beq_eq_false_iff_ne.2 h3
      go_wp2_with (refine wpList_slice_of rfl _ _ _ _ _ rfl _ (hsl2 _) ?_)
      go_region
      have HSt := Lib.hid (stop47_any sb _ tv p.main fuel (tick s) o2 4 0 _ HB5.out.sst)
      go_wp2_with (first
        | (go_at_call 58; refine HSt.out.mono ?_; rintro e w2 ⟨rfl, hs2, hE2⟩; obtain ⟨n2, hP⟩ := exit_stop HB5.out hsb hs2 hE2 HEQ.out; have HP := Lib.hid hP; clear hP hs2 hE2)
        | (refine wpList_store_row rfl 77 _ _ rfl (V.heap.size + 2) nil47 rfl rfl 77 nil47 n2 info47 rfl (all_one _ rfl) ?_))
      exact bodyPost_ret (results_cell_row rfl _ _ (V.heap.size + 2) 77 _ (0, 0) _ rfl (setRow_heap _ _ _ _ _ _ n2) Tryz.underlying77 rfl info47) rfl HP.out
end Go.Proofs.YtidolpcbbbakmaaGreat
