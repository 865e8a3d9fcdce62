/- call of the reference of layer 47: operations 1, 2, 3, 5. -/
import Derived.Test.YtidolpcbbbakmaaGreatM46
namespace Go.Proofs.YtidolpcbbbakmaaGreat
open Go Go.RowKit
set_option maxRecDepth 100000 in
set_option maxHeartbeats 16000000 in
theorem arm_1 : ArmOk 1 := by
  intro p hp fuel hfu G HIH M w0 sb tv st ov V hw0 hM fop fs fl aop an asx al k fb foff fc HB hsb fdc fdd fdcode cc fla flc h7 HFO ala alc HP R L1 HOV hkp mu hmu0 rel nn wr hmu J K K1 hJ hK stk lo s o2 m he hsf t at1 ib ioff hlenF HFN hfk hrel0 hw2 ia ib2 q hat w3 hz3 hq1000 hlen a c HL hc HASH fr hfq hfr hfrom hsl2 hdl hltm v4 w4 HB4 HK4 HROW HS2 HVS hz4 hbx4 hfi HRI hq act hsz hdf hpre h15 h16
  have at0 : (0 : Int) ≤ (t : Int) := by omega
  have htop := HL.out.top
  have hpos := HL.out.pos
  have hgas := HL.out.gas
  have hsmall := HL.out.small
  obtain ⟨iV, iVhii, iVz0, iVz1, iVz2⟩ := parts_info info_valK
  have j0 : w4.cell? ⟨wr.heap.size, 0, none⟩ = some (.int .i64 1) := by simp [World.cell?, hbx4]
  have j1 : w4.cell? ⟨wr.heap.size, 1, none⟩ = some (.int .i64 ia) := by simp [World.cell?, hbx4]
  have j2 : w4.cell? ⟨wr.heap.size, 2, none⟩ = some (.int .i64 ib2) := by simp [World.cell?, hbx4]
  have HRR := Lib.hid (right_rest HRI.out)
  have heq := HL.out.eq
  rw [runP, HFN.out] at heq
  simp only at heq
  rw [if_neg (by simpa using he), if_neg (by omega), if_neg hsf, Int.toNat_natCast, hfi, hq, List.length_map, if_neg hlen, hfrom, ← List.map_drop, ← List.map_take] at heq
  have HEQ := Lib.hid heq
  clear heq hbx4
  have hsfb : (s.steps == fuel) = false := beq_eq_false_iff_ne.2 hsf
  revert hpre h15 h16
  refine act_lit act hsz hdf ?_
  clear hsz hdf act
  intro u0 u1 u2 u3 u4 u5 u6 u7 u8 u9 u10 u11 u12 u13 u14 u15 u16
  intros
  rename_i hpre h15 h16
  change [u0, u1, u2, u3, u4, u5, u6, u7, u8, u9, u10, u11] = _ at hpre
  cases hpre
  change u15 = _ at h15
  change u16 = _ at h16
  subst h15 h16
  simp only [callRest, seqR, seqL, insideC, Tryz.f29, Option.getD_some]
  have hE := HEQ.out
  simp only [show ¬ (1 : Int) = 9 by decide, show ¬ (1 : Int) = 14 by decide, show ¬ (1 : Int) = 16 by decide, show ¬ (1 : Int) = 4 by decide, show ¬ (1 : Int) = 13 by decide, show ¬ (1 : Int) = 8 by decide, show ¬ (1 : Int) = 2 by decide, show ¬ (1 : Int) = 3 by decide, show ¬ (1 : Int) = 5 by decide, show ¬ (1 : Int) = 6 by decide, show ¬ (1 : Int) = 7 by decide, show ¬ (1 : Int) = 10 by decide, show ¬ (1 : Int) = 12 by decide, show ¬ (1 : Int) = 11 by decide, if_false, if_true] at hE
  have HE := Lib.hid hE
  clear hE HEQ
  have hpp : pushP p (stripX (.mk fop (k : Int) fs (.slice fla fl.length flc) fl)) (lo.map stripX) ((stk.drop fr).map stripX) ⟨1, ia, ib2⟩ (tick s) = (stripX (.mk 1 ia ⟨#[]⟩ (.slice none 0 0) []), tick s) := by unfold pushP; simp only [show ¬ (1 : Int) = 2 by decide, show ¬ (1 : Int) = 3 by decide, show ¬ (1 : Int) = 5 by decide, show ¬ (1 : Int) = 6 by decide, show ¬ (1 : Int) = 7 by decide, show ¬ (1 : Int) = 10 by decide, show ¬ (1 : Int) = 12 by decide, show ¬ (1 : Int) = 11 by decide, if_false, if_true, stripX_mk, stripL_map, List.map_nil]
  rw [hpp] at HE
  have hE := HE.out
  have hx0 : ¬ (stripX (.mk 1 ia ⟨#[]⟩ (.slice none 0 0) [])).op = 0 := by rw [strip_op]; show ¬ (1 : Int) = 0; decide
  simp only [hx0, if_false] at hE
  have HE5 := Lib.hid hE
  clear hE HE hpp hx0
  have HB5 := Lib.hid (HB4.out.free (grown_alloc w4 (.cells #[.int .i64 1, .int .i64 ia, .string ⟨#[]⟩, .slice none 0 0] 77)))
  have HK5 := Lib.hid (HK4.out.trans (keepV_grown (grown_alloc w4 (.cells #[.int .i64 1, .int .i64 ia, .string ⟨#[]⟩, .slice none 0 0] 77))))
  have hxw : IsV (Mine M V.heap.size) w4 (.mk 1 ia ⟨#[]⟩ (.slice none 0 0) []) := isV_flat _ _ _ _ _
  have HX5 := Lib.hid (hxw.kept (keepV_grown (grown_alloc w4 (.cells #[.int .i64 1, .int .i64 ia, .string ⟨#[]⟩, .slice none 0 0] 77))))
  have HXO5 : Hid (ValOk p (stripX (.mk 1 ia ⟨#[]⟩ (.slice none 0 0) []))) := Lib.hid (by rw [stripX_mk, stripL]; exact valOk_flat p _ _ _ (by decide) (by decide))
  clear hxw
  have HT5 : Hid ((tick s).steps ≤ fuel) := Lib.hid (step_le htop hsf)
  have HS5 : Hid (s.steps + 1 ≤ (tick s).steps) := Lib.hid (Int.le_refl _)
  have HO5 : Hid ((tick s).out.length ≤ 1000) := Lib.hid HL.out.out
  have hnon : a = none → fr = 0 ∧ fr = 0 := fun e => by rcases HASH.out with ⟨_, h2⟩ | ⟨g, h2⟩; (subst h2; exact ⟨by simpa using hfr, by simpa using hfr⟩); (rw [h2] at e; cases e)
  have hrow5 := HL.out.stack.kept HK5.out
  have j0a := cell_alloc_some j0 (.cells #[.int .i64 0, .int .i64 0, .string ⟨#[]⟩, .slice none 0 0] 77)
  have j1a := cell_alloc_some j1 (.cells #[.int .i64 0, .int .i64 0, .string ⟨#[]⟩, .slice none 0 0] 77)
  have j2a := cell_alloc_some j2 (.cells #[.int .i64 0, .int .i64 0, .string ⟨#[]⟩, .slice none 0 0] 77)
  have hst4 := (eight_cells HB5.out.sst.blk).2.2.2.2.1
  have hst := (eight_cells HL.out.base.sst.blk).2.2.2.2.1
  have h1c4 : ∀ u ∈ ([.int .i64 1, .int .i64 ia, .string ⟨#[]⟩, .slice none 0 0] : List Value), u.oneCell' = true := by intro u hu; simp only [List.mem_cons, List.not_mem_nil, or_false] at hu; rcases hu with rfl | rfl | rfl | rfl <;> rfl
  go_wp2_with (first
    | (refine wpList_slice_of rfl _ _ _ _ _ rfl _ (hsl2 _) ?_)
    | (at_builtin; refine wpList_append_grows _ rfl _ _ 75 rfl 77 iV (.agg nil47) 4 56 Tryz.underlying75 iVhii iVz0 iVz1 iVz2 rfl (by decide) a fr fr (expCells (stk.take fr)) rfl hnon ?d1x1 ?d2x1 _ 1 1 [.int .i64 1, .int .i64 ia, .string ⟨#[]⟩, .slice none 0 0] rfl rfl ?d3x1 h1c4 (Nat.lt_succ_self _) ?d5x1 ?d6x1 ?_))
  try case d1x1 => rw [expCells_length, List.length_take]; omega
  try case d2x1 => intro b hb j u hj; exact row_cells (rowV_sub (HL.out.stack.kept (HK5.out.trans (keepV_grown (grown_alloc _ _)))) fr hfr) hb hj
  try case d3x1 => exact World.news_of_block (cs := #[.int .i64 1, .int .i64 ia, .string ⟨#[]⟩, .slice none 0 0]) (heap_alloc_at (by simp) _)
  try case d5x1 => unfold maxLen; omega
  try case d6x1 => omega
  intro v6 w6 hown6 hgrow6
  have hj := Lib.hid (push_end HL.out HB5.out HK5.out hfr (fun b hb => Nat.lt_of_lt_of_le (hltm b hb) (by simp; omega)) HX5.out HXO5.out HE5.out HS5.out HT5.out HO5.out (by omega) (by omega) (grown_alloc _ _) (by simp) hown6 hgrow6)
  have hst6 := (eight_cells hj.out.base.sst.blk).2.2.2.2.1
  clear hown6 hgrow6
  go_wp2_with fail
  refine Handed.intro (mu _) ?_ (hJ _ _ _ ⟨rfl, rfl, rfl, (by rw [hrel0]; exact ⟨_, _, _, _, _, _, rfl, hj⟩), rfl⟩)
  rw [← hmu, hmu0]
  simp only [hst6, hst, Option.getD_some, intOf]
  exact mu_less htop hsf HS5.out
set_option maxRecDepth 100000 in
set_option maxHeartbeats 16000000 in
theorem arm_2 : ArmOk 2 := by
  intro p hp fuel hfu G HIH M w0 sb tv st ov V hw0 hM fop fs fl aop an asx al k fb foff fc HB hsb fdc fdd fdcode cc fla flc h7 HFO ala alc HP R L1 HOV hkp mu hmu0 rel nn wr hmu J K K1 hJ hK stk lo s o2 m he hsf t at1 ib ioff hlenF HFN hfk hrel0 hw2 ia ib2 q hat w3 hz3 hq1000 hlen a c HL hc HASH fr hfq hfr hfrom hsl2 hdl hltm v4 w4 HB4 HK4 HROW HS2 HVS hz4 hbx4 hfi HRI hq act hsz hdf hpre h15 h16
  have at0 : (0 : Int) ≤ (t : Int) := by omega
  have htop := HL.out.top
  have hpos := HL.out.pos
  have hgas := HL.out.gas
  have hsmall := HL.out.small
  obtain ⟨iV, iVhii, iVz0, iVz1, iVz2⟩ := parts_info info_valK
  have j0 : w4.cell? ⟨wr.heap.size, 0, none⟩ = some (.int .i64 2) := by simp [World.cell?, hbx4]
  have j1 : w4.cell? ⟨wr.heap.size, 1, none⟩ = some (.int .i64 ia) := by simp [World.cell?, hbx4]
  have j2 : w4.cell? ⟨wr.heap.size, 2, none⟩ = some (.int .i64 ib2) := by simp [World.cell?, hbx4]
  have HRR := Lib.hid (right_rest HRI.out)
  have heq := HL.out.eq
  rw [runP, HFN.out] at heq
  simp only at heq
  rw [if_neg (by simpa using he), if_neg (by omega), if_neg hsf, Int.toNat_natCast, hfi, hq, List.length_map, if_neg hlen, hfrom, ← List.map_drop, ← List.map_take] at heq
  have HEQ := Lib.hid heq
  clear heq hbx4
  have hsfb : (s.steps == fuel) = false := beq_eq_false_iff_ne.2 hsf
  revert hpre h15 h16
  refine act_lit act hsz hdf ?_
  clear hsz hdf act
  intro u0 u1 u2 u3 u4 u5 u6 u7 u8 u9 u10 u11 u12 u13 u14 u15 u16
  intros
  rename_i hpre h15 h16
  change [u0, u1, u2, u3, u4, u5, u6, u7, u8, u9, u10, u11] = _ at hpre
  cases hpre
  change u15 = _ at h15
  change u16 = _ at h16
  subst h15 h16
  simp only [callRest, seqR, seqL, insideC, Tryz.f29, Option.getD_some]
  have hE := HEQ.out
  simp only [show ¬ (2 : Int) = 9 by decide, show ¬ (2 : Int) = 14 by decide, show ¬ (2 : Int) = 16 by decide, show ¬ (2 : Int) = 4 by decide, show ¬ (2 : Int) = 13 by decide, show ¬ (2 : Int) = 8 by decide, show ¬ (2 : Int) = 1 by decide, show ¬ (2 : Int) = 3 by decide, show ¬ (2 : Int) = 5 by decide, show ¬ (2 : Int) = 6 by decide, show ¬ (2 : Int) = 7 by decide, show ¬ (2 : Int) = 10 by decide, show ¬ (2 : Int) = 12 by decide, show ¬ (2 : Int) = 11 by decide, if_false, if_true] at hE
  have HE := Lib.hid hE
  clear hE HEQ
  have hR := HRR.out.1 rfl
  simp only at hR
  obtain ⟨j, rfl⟩ : ∃ j : Nat, ia = (j : Int) := ⟨ia.toNat, by omega⟩
  have hjl : j < p.texts.length := by omega
  have hB0 := HB.out.trans (HB4.out.em.below (by omega) hsb (fun q hq => by have := (owns_lt HOV.out q hq).1; omega))
  obtain ⟨tb, toff, tc, hta, _, _, t0⟩ := texts_at (IsRow.below HP.out.2 hB0) j hjl
  clear hB0
  have hpp : pushP p (stripX (.mk fop (k : Int) fs (.slice fla fl.length flc) fl)) (lo.map stripX) ((stk.drop fr).map stripX) ⟨2, (j : Int), ib2⟩ (tick s) = (.mk 2 0 (p.texts.getD j default) [], tick s) := by unfold pushP; simp only [show ¬ (2 : Int) = 1 by decide, if_false, if_true, Int.toNat_natCast]
  rw [hpp] at HE
  clear hpp
  generalize p.texts.getD j default = xt at t0 HE
  have hxs : stripX (.mk 2 0 xt (.slice none 0 0) []) = .mk 2 0 xt [] := by rw [stripX_mk, stripL]
  rw [← hxs] at HE
  have hE := HE.out
  have hx0 : ¬ (stripX (.mk 2 0 xt (.slice none 0 0) [])).op = 0 := by rw [strip_op]; show ¬ (2 : Int) = 0; decide
  simp only [hx0, if_false] at hE
  have HE5 := Lib.hid hE
  clear hE HE hx0
  obtain ⟨q0, q1, q2, q3, q4, q5, q6, q7⟩ := eight_cells HB4.out.sst.blk
  rw [hta] at q1
  clear q0 q2 q3 q4 q5 q6 q7
  have q1a := cell_alloc_some q1 (.cells #[.int .i64 0, .int .i64 0, .string ⟨#[]⟩, .slice none 0 0] 77)
  have t0a := cell_alloc_some t0 (.cells #[.int .i64 0, .int .i64 0, .string ⟨#[]⟩, .slice none 0 0] 77)
  have hjt : (j : Int) < ((p.texts.length : Nat) : Int) := by omega
  have g25 := both (grown_alloc w4 (.cells #[.int .i64 2, .int .i64 0, .string xt, .slice none 0 0] 77)) (grown_drew _)
  have HB5 := Lib.hid (HB4.out.free g25)
  have HK5 := Lib.hid (HK4.out.trans (keepV_grown g25))
  have HX5 := Lib.hid (isV_flat (Mine M V.heap.size) (w4.alloc (.cells #[.int .i64 2, .int .i64 0, .string xt, .slice none 0 0] 77)).drew 2 0 xt)
  have HXO5 : Hid (ValOk p (stripX (.mk 2 0 xt (.slice none 0 0) []))) := Lib.hid (by rw [hxs]; exact valOk_flat p _ _ _ (by decide) (by decide))
  clear g25 hxs
  have HT5 : Hid ((tick s).steps ≤ fuel) := Lib.hid (step_le htop hsf)
  have HS5 : Hid (s.steps + 1 ≤ (tick s).steps) := Lib.hid (Int.le_refl _)
  have HO5 : Hid ((tick s).out.length ≤ 1000) := Lib.hid HL.out.out
  have hnon : a = none → fr = 0 ∧ fr = 0 := fun e => by rcases HASH.out with ⟨_, h2⟩ | ⟨g, h2⟩; (subst h2; exact ⟨by simpa using hfr, by simpa using hfr⟩); (rw [h2] at e; cases e)
  have hrow5 := HL.out.stack.kept HK5.out
  have j0a := cell_alloc_some j0 (.cells #[.int .i64 0, .int .i64 0, .string ⟨#[]⟩, .slice none 0 0] 77)
  have j1a := cell_alloc_some j1 (.cells #[.int .i64 0, .int .i64 0, .string ⟨#[]⟩, .slice none 0 0] 77)
  have j2a := cell_alloc_some j2 (.cells #[.int .i64 0, .int .i64 0, .string ⟨#[]⟩, .slice none 0 0] 77)
  have hst4 := (eight_cells HB5.out.sst.blk).2.2.2.2.1
  have hst := (eight_cells HL.out.base.sst.blk).2.2.2.2.1
  have h1c4 : ∀ u ∈ ([.int .i64 2, .int .i64 0, .string xt, .slice none 0 0] : List Value), u.oneCell' = true := by intro u hu; simp only [List.mem_cons, List.not_mem_nil, or_false] at hu; rcases hu with rfl | rfl | rfl | rfl <;> rfl
  go_wp2_with (refine wpList_slice_of rfl _ _ _ _ _ rfl _ (hsl2 _) ?_)
  go_region
  go_wp2_with (first
    | (refine wpList_slice_of rfl _ _ _ _ _ rfl _ (hsl2 _) ?_)
    | (at_builtin; refine wpList_append_grows _ rfl _ _ 75 rfl 77 iV (.agg nil47) 4 56 Tryz.underlying75 iVhii iVz0 iVz1 iVz2 rfl (by decide) a fr fr (expCells (stk.take fr)) rfl hnon ?d1x2 ?d2x2 _ 1 1 [.int .i64 2, .int .i64 0, .string xt, .slice none 0 0] rfl rfl ?d3x2 h1c4 (Nat.lt_succ_self _) ?d5x2 ?d6x2 ?_))
  try case d1x2 => rw [expCells_length, List.length_take]; omega
  try case d2x2 => intro b hb j u hj; exact row_cells (rowV_sub (HL.out.stack.kept (HK5.out.trans (keepV_grown (grown_alloc _ _)))) fr hfr) hb hj
  try case d3x2 => exact World.news_of_block (cs := #[.int .i64 2, .int .i64 0, .string xt, .slice none 0 0]) (heap_alloc_at (by simp) _)
  try case d5x2 => unfold maxLen; omega
  try case d6x2 => omega
  intro v6 w6 hown6 hgrow6
  have hj := Lib.hid (push_end HL.out HB5.out HK5.out hfr (fun b hb => Nat.lt_of_lt_of_le (hltm b hb) (by simp; omega)) HX5.out HXO5.out HE5.out HS5.out HT5.out HO5.out (by omega) (by omega) (grown_alloc _ _) (by simp) hown6 hgrow6)
  have hst6 := (eight_cells hj.out.base.sst.blk).2.2.2.2.1
  clear hown6 hgrow6
  go_wp2_with fail
  refine Handed.intro (mu _) ?_ (hJ _ _ _ ⟨rfl, rfl, rfl, (by rw [hrel0]; exact ⟨_, _, _, _, _, _, rfl, hj⟩), rfl⟩)
  rw [← hmu, hmu0]
  simp only [hst6, hst, Option.getD_some, intOf]
  exact mu_less htop hsf HS5.out
set_option maxRecDepth 100000 in
set_option maxHeartbeats 16000000 in
theorem arm_3 : ArmOk 3 := by
  intro p hp fuel hfu G HIH M w0 sb tv st ov V hw0 hM fop fs fl aop an asx al k fb foff fc HB hsb fdc fdd fdcode cc fla flc h7 HFO ala alc HP R L1 HOV hkp mu hmu0 rel nn wr hmu J K K1 hJ hK stk lo s o2 m he hsf t at1 ib ioff hlenF HFN hfk hrel0 hw2 ia ib2 q hat w3 hz3 hq1000 hlen a c HL hc HASH fr hfq hfr hfrom hsl2 hdl hltm v4 w4 HB4 HK4 HROW HS2 HVS hz4 hbx4 hfi HRI hq act hsz hdf hpre h15 h16
  have at0 : (0 : Int) ≤ (t : Int) := by omega
  have htop := HL.out.top
  have hpos := HL.out.pos
  have hgas := HL.out.gas
  have hsmall := HL.out.small
  obtain ⟨iV, iVhii, iVz0, iVz1, iVz2⟩ := parts_info info_valK
  have j0 : w4.cell? ⟨wr.heap.size, 0, none⟩ = some (.int .i64 3) := by simp [World.cell?, hbx4]
  have j1 : w4.cell? ⟨wr.heap.size, 1, none⟩ = some (.int .i64 ia) := by simp [World.cell?, hbx4]
  have j2 : w4.cell? ⟨wr.heap.size, 2, none⟩ = some (.int .i64 ib2) := by simp [World.cell?, hbx4]
  have HRR := Lib.hid (right_rest HRI.out)
  have heq := HL.out.eq
  rw [runP, HFN.out] at heq
  simp only at heq
  rw [if_neg (by simpa using he), if_neg (by omega), if_neg hsf, Int.toNat_natCast, hfi, hq, List.length_map, if_neg hlen, hfrom, ← List.map_drop, ← List.map_take] at heq
  have HEQ := Lib.hid heq
  clear heq hbx4
  have hsfb : (s.steps == fuel) = false := beq_eq_false_iff_ne.2 hsf
  revert hpre h15 h16
  refine act_lit act hsz hdf ?_
  clear hsz hdf act
  intro u0 u1 u2 u3 u4 u5 u6 u7 u8 u9 u10 u11 u12 u13 u14 u15 u16
  intros
  rename_i hpre h15 h16
  change [u0, u1, u2, u3, u4, u5, u6, u7, u8, u9, u10, u11] = _ at hpre
  cases hpre
  change u15 = _ at h15
  change u16 = _ at h16
  subst h15 h16
  simp only [callRest, seqR, seqL, insideC, Tryz.f29, Option.getD_some]
  have hE := HEQ.out
  simp only [show ¬ (3 : Int) = 9 by decide, show ¬ (3 : Int) = 14 by decide, show ¬ (3 : Int) = 16 by decide, show ¬ (3 : Int) = 4 by decide, show ¬ (3 : Int) = 13 by decide, show ¬ (3 : Int) = 8 by decide, show ¬ (3 : Int) = 1 by decide, show ¬ (3 : Int) = 2 by decide, show ¬ (3 : Int) = 5 by decide, show ¬ (3 : Int) = 6 by decide, show ¬ (3 : Int) = 7 by decide, show ¬ (3 : Int) = 10 by decide, show ¬ (3 : Int) = 12 by decide, show ¬ (3 : Int) = 11 by decide, if_false, if_true] at hE
  have HE := Lib.hid hE
  clear hE HEQ
  have hR := HRR.out.2.1 (.inl rfl)
  simp only at hR
  obtain ⟨j, rfl⟩ : ∃ j : Nat, ia = (j : Int) := ⟨ia.toNat, by omega⟩
  have hll : lo.length = L1 + 1 := by have := HL.out.lolen; rw [HFN.out] at this; simp only at this; omega
  have hjl : j < lo.length := by omega
  have hj1 : (j : Int) < ((L1 + 1 : Nat) : Int) := by omega
  obtain ⟨l0, l1, l2, l3⟩ := rowA_at HB4.out.lob j hjl
  have hxm := getD_mem default lo j hjl
  have HXL := Lib.hid (show IsV (Mine M V.heap.size) w4 (lo.getD j default) from HB4.out.lov _ hxm)
  have HXOL := Lib.hid (show ValOk p (stripX (lo.getD j default)) from HL.out.look _ hxm)
  have hpp : pushP p (stripX (.mk fop (k : Int) fs (.slice fla fl.length flc) fl)) (lo.map stripX) ((stk.drop fr).map stripX) ⟨3, (j : Int), ib2⟩ (tick s) = (stripX (lo.getD j default), tick s) := by unfold pushP; simp only [show ¬ (3 : Int) = 1 by decide, show ¬ (3 : Int) = 2 by decide, show ¬ (3 : Int) = 5 by decide, show ¬ (3 : Int) = 6 by decide, show ¬ (3 : Int) = 7 by decide, show ¬ (3 : Int) = 10 by decide, show ¬ (3 : Int) = 12 by decide, show ¬ (3 : Int) = 11 by decide, if_false, if_true, Int.toNat_natCast]; rw [show (List.map stripX lo).getD j default = stripX (lo.getD j default) from by rw [← default_strip, List.getD, List.getD, List.getElem?_map]; cases lo[j]? <;> rfl]
  rw [hpp] at HE
  clear hpp
  generalize lo.getD j default = x at l0 l1 l2 l3 HXL HXOL HE
  obtain ⟨xo, xn, xs, xv, xl⟩ := x
  obtain ⟨xa, xc, rfl, _⟩ := HXL.out.parts.1
  simp only [ExpD.op, ExpD.n, ExpD.s, ExpD.lv] at l0 l1 l2 l3
  have l0a := cell_alloc_some l0 (.cells #[.int .i64 0, .int .i64 0, .string ⟨#[]⟩, .slice none 0 0] 77)
  have l1a := cell_alloc_some l1 (.cells #[.int .i64 0, .int .i64 0, .string ⟨#[]⟩, .slice none 0 0] 77)
  have l2a := cell_alloc_some l2 (.cells #[.int .i64 0, .int .i64 0, .string ⟨#[]⟩, .slice none 0 0] 77)
  have l3a := cell_alloc_some l3 (.cells #[.int .i64 0, .int .i64 0, .string ⟨#[]⟩, .slice none 0 0] 77)
  have HB5 := Lib.hid (HB4.out.free (grown_alloc w4 (.cells #[.int .i64 xo, .int .i64 xn, .string xs, .slice xa xl.length xc] 77)))
  have HK5 := Lib.hid (HK4.out.trans (keepV_grown (grown_alloc w4 (.cells #[.int .i64 xo, .int .i64 xn, .string xs, .slice xa xl.length xc] 77))))
  have HX5 := Lib.hid (HXL.out.kept (keepV_grown (grown_alloc w4 (.cells #[.int .i64 xo, .int .i64 xn, .string xs, .slice xa xl.length xc] 77))))
  have HXO5 := HXOL
  have HT5 : Hid ((tick s).steps ≤ fuel) := Lib.hid (step_le htop hsf)
  have HS5 : Hid (s.steps + 1 ≤ (tick s).steps) := Lib.hid (Int.le_refl _)
  have HO5 : Hid ((tick s).out.length ≤ 1000) := Lib.hid HL.out.out
  have hxe : (stripX (.mk xo xn xs (.slice xa xl.length xc) xl)).op = xo := strip_op _
  have hE := HE.out
  simp only [hxe] at hE
  by_cases hx0 : xo = 0
  · rw [if_pos hx0] at hE
    have HEQ := Lib.hid hE
    subst hx0
    clear hE HE
    have j0a := cell_alloc_some j0 (.cells #[.int .i64 0, .int .i64 0, .string ⟨#[]⟩, .slice none 0 0] 77)
    have j1a := cell_alloc_some j1 (.cells #[.int .i64 0, .int .i64 0, .string ⟨#[]⟩, .slice none 0 0] 77)
    have j2a := cell_alloc_some j2 (.cells #[.int .i64 0, .int .i64 0, .string ⟨#[]⟩, .slice none 0 0] 77)
    have HSt := Lib.hid (stop47_any sb _ tv p.main fuel (tick s) o2 4 0 _ HB5.out.sst)
    go_wp2_with (first
      | (refine wpList_slice_of rfl _ _ _ _ _ rfl _ (hsl2 _) ?_)
      | (go_at_call 58; refine HSt.out.mono ?_; rintro e w2 ⟨rfl, hs2, hE2⟩; obtain ⟨n2, hP⟩ := exit_stop HB5.out hsb hs2 hE2 HEQ.out; have HP := Lib.hid hP; clear hP hs2 hE2)
      | (refine wpList_store_row rfl 77 _ _ rfl (V.heap.size + 2) nil47 rfl rfl 77 nil47 n2 info47 rfl (all_one _ rfl) ?_))
    exact bodyPost_ret (results_cell_row rfl _ _ (V.heap.size + 2) 77 _ (0, 0) _ rfl (setRow_heap _ _ _ _ _ _ n2) Tryz.underlying77 rfl info47) rfl HP.out
  · rw [if_neg hx0] at hE
    have HE5 := Lib.hid hE
    have hxb : (xo == 0) = false := beq_eq_false_iff_ne.2 hx0
    clear hE HE hxe
    have hnon : a = none → fr = 0 ∧ fr = 0 := fun e => by rcases HASH.out with ⟨_, h2⟩ | ⟨g, h2⟩; (subst h2; exact ⟨by simpa using hfr, by simpa using hfr⟩); (rw [h2] at e; cases e)
    have hrow5 := HL.out.stack.kept HK5.out
    have j0a := cell_alloc_some j0 (.cells #[.int .i64 0, .int .i64 0, .string ⟨#[]⟩, .slice none 0 0] 77)
    have j1a := cell_alloc_some j1 (.cells #[.int .i64 0, .int .i64 0, .string ⟨#[]⟩, .slice none 0 0] 77)
    have j2a := cell_alloc_some j2 (.cells #[.int .i64 0, .int .i64 0, .string ⟨#[]⟩, .slice none 0 0] 77)
    have hst4 := (eight_cells HB5.out.sst.blk).2.2.2.2.1
    have hst := (eight_cells HL.out.base.sst.blk).2.2.2.2.1
    have h1c4 : ∀ u ∈ ([.int .i64 xo, .int .i64 xn, .string xs, .slice xa xl.length xc] : List Value), u.oneCell' = true := by intro u hu; simp only [List.mem_cons, List.not_mem_nil, or_false] at hu; rcases hu with rfl | rfl | rfl | rfl <;> rfl
    go_wp2_with (first
      | (refine wpList_slice_of rfl _ _ _ _ _ rfl _ (hsl2 _) ?_)
      | (at_builtin; refine wpList_append_grows _ rfl _ _ 75 rfl 77 iV (.agg nil47) 4 56 Tryz.underlying75 iVhii iVz0 iVz1 iVz2 rfl (by decide) a fr fr (expCells (stk.take fr)) rfl hnon ?d1x3 ?d2x3 _ 1 1 [.int .i64 xo, .int .i64 xn, .string xs, .slice xa xl.length xc] rfl rfl ?d3x3 h1c4 (Nat.lt_succ_self _) ?d5x3 ?d6x3 ?_))
    try case d1x3 => rw [expCells_length, List.length_take]; omega
    try case d2x3 => intro b hb j u hj; exact row_cells (rowV_sub (HL.out.stack.kept (HK5.out.trans (keepV_grown (grown_alloc _ _)))) fr hfr) hb hj
    try case d3x3 => exact World.news_of_block (cs := #[.int .i64 xo, .int .i64 xn, .string xs, .slice xa xl.length xc]) (heap_alloc_at (by simp) _)
    try case d5x3 => unfold maxLen; omega
    try case d6x3 => omega
    intro v6 w6 hown6 hgrow6
    have hj := Lib.hid (push_end HL.out HB5.out HK5.out hfr (fun b hb => Nat.lt_of_lt_of_le (hltm b hb) (by simp; omega)) HX5.out HXO5.out HE5.out HS5.out HT5.out HO5.out (by omega) (by omega) (grown_alloc _ _) (by simp) hown6 hgrow6)
    have hst6 := (eight_cells hj.out.base.sst.blk).2.2.2.2.1
    clear hown6 hgrow6
    go_wp2_with fail
    refine Handed.intro (mu _) ?_ (hJ _ _ _ ⟨rfl, rfl, rfl, (by rw [hrel0]; exact ⟨_, _, _, _, _, _, rfl, hj⟩), rfl⟩)
    rw [← hmu, hmu0]
    simp only [hst6, hst, Option.getD_some, intOf]
    exact mu_less htop hsf HS5.out
set_option maxRecDepth 100000 in
set_option maxHeartbeats 16000000 in
theorem arm_5 : ArmOk 5 := by
  intro p hp fuel hfu G HIH M w0 sb tv st ov V hw0 hM fop fs fl aop an asx al k fb foff fc HB hsb fdc fdd fdcode cc fla flc h7 HFO ala alc HP R L1 HOV hkp mu hmu0 rel nn wr hmu J K K1 hJ hK stk lo s o2 m he hsf t at1 ib ioff hlenF HFN hfk hrel0 hw2 ia ib2 q hat w3 hz3 hq1000 hlen a c HL hc HASH fr hfq hfr hfrom hsl2 hdl hltm v4 w4 HB4 HK4 HROW HS2 HVS hz4 hbx4 hfi HRI hq act hsz hdf hpre h15 h16
  have at0 : (0 : Int) ≤ (t : Int) := by omega
  have htop := HL.out.top
  have hpos := HL.out.pos
  have hgas := HL.out.gas
  have hsmall := HL.out.small
  obtain ⟨iV, iVhii, iVz0, iVz1, iVz2⟩ := parts_info info_valK
  have j0 : w4.cell? ⟨wr.heap.size, 0, none⟩ = some (.int .i64 5) := by simp [World.cell?, hbx4]
  have j1 : w4.cell? ⟨wr.heap.size, 1, none⟩ = some (.int .i64 ia) := by simp [World.cell?, hbx4]
  have j2 : w4.cell? ⟨wr.heap.size, 2, none⟩ = some (.int .i64 ib2) := by simp [World.cell?, hbx4]
  have HRR := Lib.hid (right_rest HRI.out)
  have heq := HL.out.eq
  rw [runP, HFN.out] at heq
  simp only at heq
  rw [if_neg (by simpa using he), if_neg (by omega), if_neg hsf, Int.toNat_natCast, hfi, hq, List.length_map, if_neg hlen, hfrom, ← List.map_drop, ← List.map_take] at heq
  have HEQ := Lib.hid heq
  clear heq hbx4
  have hsfb : (s.steps == fuel) = false := beq_eq_false_iff_ne.2 hsf
  revert hpre h15 h16
  refine act_lit act hsz hdf ?_
  clear hsz hdf act
  intro u0 u1 u2 u3 u4 u5 u6 u7 u8 u9 u10 u11 u12 u13 u14 u15 u16
  intros
  rename_i hpre h15 h16
  change [u0, u1, u2, u3, u4, u5, u6, u7, u8, u9, u10, u11] = _ at hpre
  cases hpre
  change u15 = _ at h15
  change u16 = _ at h16
  subst h15 h16
  simp only [callRest, seqR, seqL, insideC, Tryz.f29, Option.getD_some]
  have hE := HEQ.out
  simp only [show ¬ (5 : Int) = 9 by decide, show ¬ (5 : Int) = 14 by decide, show ¬ (5 : Int) = 16 by decide, show ¬ (5 : Int) = 4 by decide, show ¬ (5 : Int) = 13 by decide, show ¬ (5 : Int) = 8 by decide, show ¬ (5 : Int) = 1 by decide, show ¬ (5 : Int) = 2 by decide, show ¬ (5 : Int) = 3 by decide, show ¬ (5 : Int) = 6 by decide, show ¬ (5 : Int) = 7 by decide, show ¬ (5 : Int) = 10 by decide, show ¬ (5 : Int) = 12 by decide, show ¬ (5 : Int) = 11 by decide, if_false, if_true] at hE
  have HE := Lib.hid hE
  clear hE HEQ
  have hR := HRR.out.2.2.1 rfl
  simp only at hR
  obtain ⟨j, rfl⟩ : ∃ j : Nat, ia = (j : Int) := ⟨ia.toNat, by omega⟩
  have hfo2 := HFO.out.all
  have hcl := (hfo2.1 (by rw [strip_op]; exact h7)).2.2
  rw [strip_l, List.length_map, strip_n] at hcl
  change ((fl.length : Nat) : Int) = (p.funs.getD ((k : Int)).toNat default).c at hcl
  rw [Int.toNat_natCast, hfk.out] at hcl
  simp only at hcl
  have hjl : j < fl.length := by omega
  have hj1 : (j : Int) < ((fl.length : Nat) : Int) := by omega
  obtain ⟨cb, coff, cq, hv, hcq, _, hcb, l0, l1, l2, l3⟩ := rowV_at HB4.out.fval.parts.1 j hjl
  obtain ⟨rfl, _, rfl⟩ := Value.slice.inj hv
  clear hv
  have hxm := getD_mem default fl j hjl
  obtain ⟨b0, b1, b2, b3⟩ := cells4 HB4.out.boxf
  simp only [ExpD.op, ExpD.n, ExpD.s, ExpD.lv] at b0 b1 b2 b3
  have b0a := cell_alloc_some b0 (.cells #[.int .i64 0, .int .i64 0, .string ⟨#[]⟩, .slice none 0 0] 77)
  have b1a := cell_alloc_some b1 (.cells #[.int .i64 0, .int .i64 0, .string ⟨#[]⟩, .slice none 0 0] 77)
  have b2a := cell_alloc_some b2 (.cells #[.int .i64 0, .int .i64 0, .string ⟨#[]⟩, .slice none 0 0] 77)
  have b3a := cell_alloc_some b3 (.cells #[.int .i64 0, .int .i64 0, .string ⟨#[]⟩, .slice none 0 0] 77)
  have HXL := Lib.hid (show IsV (Mine M V.heap.size) w4 (fl.getD j default) from HB4.out.fval.parts.2.2 _ hxm)
  have HXOL := Lib.hid (show ValOk p (stripX (fl.getD j default)) from hfo2.2.2 _ (by rw [strip_l]; exact List.mem_map_of_mem hxm))
  have hpp : pushP p (stripX (.mk fop (k : Int) fs (.slice (some ⟨cb, coff, none⟩) fl.length flc) fl)) (lo.map stripX) ((stk.drop fr).map stripX) ⟨5, (j : Int), ib2⟩ (tick s) = (stripX (fl.getD j default), tick s) := by unfold pushP; simp only [show ¬ (5 : Int) = 1 by decide, show ¬ (5 : Int) = 2 by decide, show ¬ (5 : Int) = 3 by decide, show ¬ (5 : Int) = 6 by decide, show ¬ (5 : Int) = 7 by decide, show ¬ (5 : Int) = 10 by decide, show ¬ (5 : Int) = 12 by decide, show ¬ (5 : Int) = 11 by decide, if_false, if_true, Int.toNat_natCast]; rw [show (stripX (.mk fop (k : Int) fs (.slice (some ⟨cb, coff, none⟩) fl.length flc) fl)).l = fl.map stripX from strip_l _, show (List.map stripX fl).getD j default = stripX (fl.getD j default) from by rw [← default_strip, List.getD, List.getD, List.getElem?_map]; cases fl[j]? <;> rfl]
  rw [hpp] at HE
  clear hpp
  generalize fl.getD j default = x at l0 l1 l2 l3 HXL HXOL HE
  obtain ⟨xo, xn, xs, xv, xl⟩ := x
  obtain ⟨xa, xc, rfl, _⟩ := HXL.out.parts.1
  simp only [ExpD.op, ExpD.n, ExpD.s, ExpD.lv] at l0 l1 l2 l3
  have l0a := cell_alloc_some l0 (.cells #[.int .i64 0, .int .i64 0, .string ⟨#[]⟩, .slice none 0 0] 77)
  have l1a := cell_alloc_some l1 (.cells #[.int .i64 0, .int .i64 0, .string ⟨#[]⟩, .slice none 0 0] 77)
  have l2a := cell_alloc_some l2 (.cells #[.int .i64 0, .int .i64 0, .string ⟨#[]⟩, .slice none 0 0] 77)
  have l3a := cell_alloc_some l3 (.cells #[.int .i64 0, .int .i64 0, .string ⟨#[]⟩, .slice none 0 0] 77)
  have HB5 := Lib.hid (HB4.out.free (grown_alloc w4 (.cells #[.int .i64 xo, .int .i64 xn, .string xs, .slice xa xl.length xc] 77)))
  have HK5 := Lib.hid (HK4.out.trans (keepV_grown (grown_alloc w4 (.cells #[.int .i64 xo, .int .i64 xn, .string xs, .slice xa xl.length xc] 77))))
  have HX5 := Lib.hid (HXL.out.kept (keepV_grown (grown_alloc w4 (.cells #[.int .i64 xo, .int .i64 xn, .string xs, .slice xa xl.length xc] 77))))
  have HXO5 := HXOL
  have HT5 : Hid ((tick s).steps ≤ fuel) := Lib.hid (step_le htop hsf)
  have HS5 : Hid (s.steps + 1 ≤ (tick s).steps) := Lib.hid (Int.le_refl _)
  have HO5 : Hid ((tick s).out.length ≤ 1000) := Lib.hid HL.out.out
  have hxe : (stripX (.mk xo xn xs (.slice xa xl.length xc) xl)).op = xo := strip_op _
  have hE := HE.out
  simp only [hxe] at hE
  by_cases hx0 : xo = 0
  · rw [if_pos hx0] at hE
    have HEQ := Lib.hid hE
    subst hx0
    clear hE HE
    have j0a := cell_alloc_some j0 (.cells #[.int .i64 0, .int .i64 0, .string ⟨#[]⟩, .slice none 0 0] 77)
    have j1a := cell_alloc_some j1 (.cells #[.int .i64 0, .int .i64 0, .string ⟨#[]⟩, .slice none 0 0] 77)
    have j2a := cell_alloc_some j2 (.cells #[.int .i64 0, .int .i64 0, .string ⟨#[]⟩, .slice none 0 0] 77)
    have HSt := Lib.hid (stop47_any sb _ tv p.main fuel (tick s) o2 4 0 _ HB5.out.sst)
    go_wp2_with (first
      | (refine wpList_slice_of rfl _ _ _ _ _ rfl _ (hsl2 _) ?_)
      | (go_at_call 58; refine HSt.out.mono ?_; rintro e w2 ⟨rfl, hs2, hE2⟩; obtain ⟨n2, hP⟩ := exit_stop HB5.out hsb hs2 hE2 HEQ.out; have HP := Lib.hid hP; clear hP hs2 hE2)
      | (refine wpList_store_row rfl 77 _ _ rfl (V.heap.size + 2) nil47 rfl rfl 77 nil47 n2 info47 rfl (all_one _ rfl) ?_))
    exact bodyPost_ret (results_cell_row rfl _ _ (V.heap.size + 2) 77 _ (0, 0) _ rfl (setRow_heap _ _ _ _ _ _ n2) Tryz.underlying77 rfl info47) rfl HP.out
  · rw [if_neg hx0] at hE
    have HE5 := Lib.hid hE
    have hxb : (xo == 0) = false := beq_eq_false_iff_ne.2 hx0
    clear hE HE hxe
    have hnon : a = none → fr = 0 ∧ fr = 0 := fun e => by rcases HASH.out with ⟨_, h2⟩ | ⟨g, h2⟩; (subst h2; exact ⟨by simpa using hfr, by simpa using hfr⟩); (rw [h2] at e; cases e)
    have hrow5 := HL.out.stack.kept HK5.out
    have j0a := cell_alloc_some j0 (.cells #[.int .i64 0, .int .i64 0, .string ⟨#[]⟩, .slice none 0 0] 77)
    have j1a := cell_alloc_some j1 (.cells #[.int .i64 0, .int .i64 0, .string ⟨#[]⟩, .slice none 0 0] 77)
    have j2a := cell_alloc_some j2 (.cells #[.int .i64 0, .int .i64 0, .string ⟨#[]⟩, .slice none 0 0] 77)
    have hst4 := (eight_cells HB5.out.sst.blk).2.2.2.2.1
    have hst := (eight_cells HL.out.base.sst.blk).2.2.2.2.1
    have h1c4 : ∀ u ∈ ([.int .i64 xo, .int .i64 xn, .string xs, .slice xa xl.length xc] : List Value), u.oneCell' = true := by intro u hu; simp only [List.mem_cons, List.not_mem_nil, or_false] at hu; rcases hu with rfl | rfl | rfl | rfl <;> rfl
    go_wp2_with (first
      | (refine wpList_slice_of rfl _ _ _ _ _ rfl _ (hsl2 _) ?_)
      | (at_builtin; refine wpList_append_grows _ rfl _ _ 75 rfl 77 iV (.agg nil47) 4 56 Tryz.underlying75 iVhii iVz0 iVz1 iVz2 rfl (by decide) a fr fr (expCells (stk.take fr)) rfl hnon ?d1x4 ?d2x4 _ 1 1 [.int .i64 xo, .int .i64 xn, .string xs, .slice xa xl.length xc] rfl rfl ?d3x4 h1c4 (Nat.lt_succ_self _) ?d5x4 ?d6x4 ?_))
    try case d1x4 => rw [expCells_length, List.length_take]; omega
    try case d2x4 => intro b hb j u hj; exact row_cells (rowV_sub (HL.out.stack.kept (HK5.out.trans (keepV_grown (grown_alloc _ _)))) fr hfr) hb hj
    try case d3x4 => exact World.news_of_block (cs := #[.int .i64 xo, .int .i64 xn, .string xs, .slice xa xl.length xc]) (heap_alloc_at (by simp) _)
    try case d5x4 => unfold maxLen; omega
    try case d6x4 => omega
    intro v6 w6 hown6 hgrow6
    have hj := Lib.hid (push_end HL.out HB5.out HK5.out hfr (fun b hb => Nat.lt_of_lt_of_le (hltm b hb) (by simp; omega)) HX5.out HXO5.out HE5.out HS5.out HT5.out HO5.out (by omega) (by omega) (grown_alloc _ _) (by simp) hown6 hgrow6)
    have hst6 := (eight_cells hj.out.base.sst.blk).2.2.2.2.1
    clear hown6 hgrow6
    go_wp2_with fail
    refine Handed.intro (mu _) ?_ (hJ _ _ _ ⟨rfl, rfl, rfl, (by rw [hrel0]; exact ⟨_, _, _, _, _, _, rfl, hj⟩), rfl⟩)
    rw [← hmu, hmu0]
    simp only [hst6, hst, Option.getD_some, intOf]
    exact mu_less htop hsf HS5.out
end Go.Proofs.YtidolpcbbbakmaaGreat
