/- call of the reference of layer 47: operations 6, 7, 9, 10, 12. -/
import Derived.Test.YtidolpcbbbakmaaGreatM46
namespace Go.Proofs.YtidolpcbbbakmaaGreat
open Go Go.RowKit
set_option maxRecDepth 100000 in
set_option maxHeartbeats 16000000 in
theorem arm_6 : ArmOk 6 := by
  intro p hp fuel hfu G HIH M w0 sb tv st ov V hw0 hM fop fs fl aop an asx al k fb foff fc HB hsb fdc fdd fdcode cc fla flc h7 HFO ala alc HP R L1 HOV hkp mu hmu0 rel nn wr hmu J K K1 hJ hK stk lo s o2 m he hsf t at1 ib ioff hlenF HFN hfk hrel0 hw2 ia ib2 q hat w3 hz3 hq1000 hlen a c HL hc HASH fr hfq hfr hfrom hsl2 hdl hltm v4 w4 HB4 HK4 HROW HS2 HVS hz4 hbx4 hfi HRI hq act hsz hdf hpre h15 h16
  have at0 : (0 : Int) ≤ (t : Int) := by omega
  have htop := HL.out.top
  have hpos := HL.out.pos
  have hgas := HL.out.gas
  have hsmall := HL.out.small
  obtain ⟨iV, iVhii, iVz0, iVz1, iVz2⟩ := parts_info info_valK
  have j0 : w4.cell? ⟨wr.heap.size, 0, none⟩ = some (.int .i64 6) := by simp [World.cell?, hbx4]
  have j1 : w4.cell? ⟨wr.heap.size, 1, none⟩ = some (.int .i64 ia) := by simp [World.cell?, hbx4]
  have j2 : w4.cell? ⟨wr.heap.size, 2, none⟩ = some (.int .i64 ib2) := by simp [World.cell?, hbx4]
  have HRR := Lib.hid (right_rest HRI.out)
  have heq := HL.out.eq
  rw [runP, HFN.out] at heq
  simp only at heq
  rw [if_neg (by simpa using he), if_neg (by omega), if_neg hsf, Int.toNat_natCast, hfi, hq, List.length_map, if_neg hlen, hfrom, ← List.map_drop, ← List.map_take] at heq
  have HEQ := Lib.hid heq
  clear heq hbx4
  have hsfb : (s.steps == fuel) = false := beq_eq_false_iff_ne.2 hsf
  revert hpre h15 h16
  refine act_lit act hsz hdf ?_
  clear hsz hdf act
  intro u0 u1 u2 u3 u4 u5 u6 u7 u8 u9 u10 u11 u12 u13 u14 u15 u16
  intros
  rename_i hpre h15 h16
  change [u0, u1, u2, u3, u4, u5, u6, u7, u8, u9, u10, u11] = _ at hpre
  cases hpre
  change u15 = _ at h15
  change u16 = _ at h16
  subst h15 h16
  simp only [callRest, seqR, seqL, insideC, Tryz.f29, Option.getD_some]
  have hE := HEQ.out
  simp only [show ¬ (6 : Int) = 9 by decide, show ¬ (6 : Int) = 14 by decide, show ¬ (6 : Int) = 16 by decide, show ¬ (6 : Int) = 4 by decide, show ¬ (6 : Int) = 13 by decide, show ¬ (6 : Int) = 8 by decide, show ¬ (6 : Int) = 1 by decide, show ¬ (6 : Int) = 2 by decide, show ¬ (6 : Int) = 3 by decide, show ¬ (6 : Int) = 5 by decide, show ¬ (6 : Int) = 7 by decide, show ¬ (6 : Int) = 10 by decide, show ¬ (6 : Int) = 12 by decide, show ¬ (6 : Int) = 11 by decide, if_false, if_true] at hE
  have HE := Lib.hid hE
  clear hE HEQ
  obtain ⟨b0, b1, b2, b3⟩ := cells4 HB4.out.boxf
  simp only [ExpD.op, ExpD.n, ExpD.s, ExpD.lv] at b0 b1 b2 b3
  have b0a := cell_alloc_some b0 (.cells #[.int .i64 0, .int .i64 0, .string ⟨#[]⟩, .slice none 0 0] 77)
  have b1a := cell_alloc_some b1 (.cells #[.int .i64 0, .int .i64 0, .string ⟨#[]⟩, .slice none 0 0] 77)
  have b2a := cell_alloc_some b2 (.cells #[.int .i64 0, .int .i64 0, .string ⟨#[]⟩, .slice none 0 0] 77)
  have b3a := cell_alloc_some b3 (.cells #[.int .i64 0, .int .i64 0, .string ⟨#[]⟩, .slice none 0 0] 77)
  have hf0 : (fop == 0) = false := by have h7f : fop = 7 := h7; rw [h7f]; rfl
  have hf1 : ¬ fop = 0 := by have h7f : fop = 7 := h7; omega
  have hpp : pushP p (stripX (.mk fop (k : Int) fs (.slice fla fl.length flc) fl)) (lo.map stripX) ((stk.drop fr).map stripX) ⟨6, ia, ib2⟩ (tick s) = (stripX (.mk fop (k : Int) fs (.slice fla fl.length flc) fl), tick s) := by unfold pushP; simp only [show ¬ (6 : Int) = 1 by decide, show ¬ (6 : Int) = 2 by decide, show ¬ (6 : Int) = 3 by decide, show ¬ (6 : Int) = 5 by decide, show ¬ (6 : Int) = 7 by decide, show ¬ (6 : Int) = 10 by decide, show ¬ (6 : Int) = 12 by decide, show ¬ (6 : Int) = 11 by decide, if_false, if_true, stripX_mk, stripL_map, List.map_nil]
  rw [hpp] at HE
  have hE := HE.out
  have hx0 : ¬ (stripX (.mk fop (k : Int) fs (.slice fla fl.length flc) fl)).op = 0 := by rw [strip_op]; show ¬ (fop : Int) = 0; have h7f : fop = 7 := h7; omega
  simp only [hx0, if_false] at hE
  have HE5 := Lib.hid hE
  clear hE HE hpp hx0
  have HB5 := Lib.hid (HB4.out.free (grown_alloc w4 (.cells #[.int .i64 fop, .int .i64 (k : Int), .string fs, .slice fla fl.length flc] 77)))
  have HK5 := Lib.hid (HK4.out.trans (keepV_grown (grown_alloc w4 (.cells #[.int .i64 fop, .int .i64 (k : Int), .string fs, .slice fla fl.length flc] 77))))
  have hxw : IsV (Mine M V.heap.size) w4 (.mk fop (k : Int) fs (.slice fla fl.length flc) fl) := HB4.out.fval
  have HX5 := Lib.hid (hxw.kept (keepV_grown (grown_alloc w4 (.cells #[.int .i64 fop, .int .i64 (k : Int), .string fs, .slice fla fl.length flc] 77))))
  have HXO5 : Hid (ValOk p (stripX (.mk fop (k : Int) fs (.slice fla fl.length flc) fl))) := Lib.hid (HFO.out)
  clear hxw
  have HT5 : Hid ((tick s).steps ≤ fuel) := Lib.hid (step_le htop hsf)
  have HS5 : Hid (s.steps + 1 ≤ (tick s).steps) := Lib.hid (Int.le_refl _)
  have HO5 : Hid ((tick s).out.length ≤ 1000) := Lib.hid HL.out.out
  have hnon : a = none → fr = 0 ∧ fr = 0 := fun e => by rcases HASH.out with ⟨_, h2⟩ | ⟨g, h2⟩; (subst h2; exact ⟨by simpa using hfr, by simpa using hfr⟩); (rw [h2] at e; cases e)
  have hrow5 := HL.out.stack.kept HK5.out
  have j0a := cell_alloc_some j0 (.cells #[.int .i64 0, .int .i64 0, .string ⟨#[]⟩, .slice none 0 0] 77)
  have j1a := cell_alloc_some j1 (.cells #[.int .i64 0, .int .i64 0, .string ⟨#[]⟩, .slice none 0 0] 77)
  have j2a := cell_alloc_some j2 (.cells #[.int .i64 0, .int .i64 0, .string ⟨#[]⟩, .slice none 0 0] 77)
  have hst4 := (eight_cells HB5.out.sst.blk).2.2.2.2.1
  have hst := (eight_cells HL.out.base.sst.blk).2.2.2.2.1
  have h1c4 : ∀ u ∈ ([.int .i64 fop, .int .i64 (k : Int), .string fs, .slice fla fl.length flc] : List Value), u.oneCell' = true := by intro u hu; simp only [List.mem_cons, List.not_mem_nil, or_false] at hu; rcases hu with rfl | rfl | rfl | rfl <;> rfl
  go_wp2_with (first
    | (refine wpList_slice_of rfl _ _ _ _ _ rfl _ (hsl2 _) ?_)
    | (at_builtin; refine wpList_append_grows _ rfl _ _ 75 rfl 77 iV (.agg nil47) 4 56 Tryz.underlying75 iVhii iVz0 iVz1 iVz2 rfl (by decide) a fr fr (expCells (stk.take fr)) rfl hnon ?d1x5 ?d2x5 _ 1 1 [.int .i64 fop, .int .i64 (k : Int), .string fs, .slice fla fl.length flc] rfl rfl ?d3x5 h1c4 (Nat.lt_succ_self _) ?d5x5 ?d6x5 ?_))
  try case d1x5 => rw [expCells_length, List.length_take]; omega
  try case d2x5 => intro b hb j u hj; exact row_cells (rowV_sub (HL.out.stack.kept (HK5.out.trans (keepV_grown (grown_alloc _ _)))) fr hfr) hb hj
  try case d3x5 => exact World.news_of_block (cs := #[.int .i64 fop, .int .i64 (k : Int), .string fs, .slice fla fl.length flc]) (heap_alloc_at (by simp) _)
  try case d5x5 => unfold maxLen; omega
  try case d6x5 => omega
  intro v6 w6 hown6 hgrow6
  have hj := Lib.hid (push_end HL.out HB5.out HK5.out hfr (fun b hb => Nat.lt_of_lt_of_le (hltm b hb) (by simp; omega)) HX5.out HXO5.out HE5.out HS5.out HT5.out HO5.out (by omega) (by omega) (grown_alloc _ _) (by simp) hown6 hgrow6)
  have hst6 := (eight_cells hj.out.base.sst.blk).2.2.2.2.1
  clear hown6 hgrow6
  go_wp2_with fail
  refine Handed.intro (mu _) ?_ (hJ _ _ _ ⟨rfl, rfl, rfl, (by rw [hrel0]; exact ⟨_, _, _, _, _, _, rfl, hj⟩), rfl⟩)
  rw [← hmu, hmu0]
  simp only [hst6, hst, Option.getD_some, intOf]
  exact mu_less htop hsf HS5.out
set_option maxRecDepth 100000 in
set_option maxHeartbeats 16000000 in
theorem arm_7 : ArmOk 7 := by
  intro p hp fuel hfu G HIH M w0 sb tv st ov V hw0 hM fop fs fl aop an asx al k fb foff fc HB hsb fdc fdd fdcode cc fla flc h7 HFO ala alc HP R L1 HOV hkp mu hmu0 rel nn wr hmu J K K1 hJ hK stk lo s o2 m he hsf t at1 ib ioff hlenF HFN hfk hrel0 hw2 ia ib2 q hat w3 hz3 hq1000 hlen a c HL hc HASH fr hfq hfr hfrom hsl2 hdl hltm v4 w4 HB4 HK4 HROW HS2 HVS hz4 hbx4 hfi HRI hq act hsz hdf hpre h15 h16
  have at0 : (0 : Int) ≤ (t : Int) := by omega
  have htop := HL.out.top
  have hpos := HL.out.pos
  have hgas := HL.out.gas
  have hsmall := HL.out.small
  obtain ⟨iV, iVhii, iVz0, iVz1, iVz2⟩ := parts_info info_valK
  have j0 : w4.cell? ⟨wr.heap.size, 0, none⟩ = some (.int .i64 7) := by simp [World.cell?, hbx4]
  have j1 : w4.cell? ⟨wr.heap.size, 1, none⟩ = some (.int .i64 ia) := by simp [World.cell?, hbx4]
  have j2 : w4.cell? ⟨wr.heap.size, 2, none⟩ = some (.int .i64 ib2) := by simp [World.cell?, hbx4]
  have HRR := Lib.hid (right_rest HRI.out)
  have heq := HL.out.eq
  rw [runP, HFN.out] at heq
  simp only at heq
  rw [if_neg (by simpa using he), if_neg (by omega), if_neg hsf, Int.toNat_natCast, hfi, hq, List.length_map, if_neg hlen, hfrom, ← List.map_drop, ← List.map_take] at heq
  have HEQ := Lib.hid heq
  clear heq hbx4
  have hsfb : (s.steps == fuel) = false := beq_eq_false_iff_ne.2 hsf
  revert hpre h15 h16
  refine act_lit act hsz hdf ?_
  clear hsz hdf act
  intro u0 u1 u2 u3 u4 u5 u6 u7 u8 u9 u10 u11 u12 u13 u14 u15 u16
  intros
  rename_i hpre h15 h16
  change [u0, u1, u2, u3, u4, u5, u6, u7, u8, u9, u10, u11] = _ at hpre
  cases hpre
  change u15 = _ at h15
  change u16 = _ at h16
  subst h15 h16
  simp only [callRest, seqR, seqL, insideC, Tryz.f29, Option.getD_some]
  have hE := HEQ.out
  simp only [show ¬ (7 : Int) = 9 by decide, show ¬ (7 : Int) = 14 by decide, show ¬ (7 : Int) = 16 by decide, show ¬ (7 : Int) = 4 by decide, show ¬ (7 : Int) = 13 by decide, show ¬ (7 : Int) = 8 by decide, show ¬ (7 : Int) = 1 by decide, show ¬ (7 : Int) = 2 by decide, show ¬ (7 : Int) = 3 by decide, show ¬ (7 : Int) = 5 by decide, show ¬ (7 : Int) = 6 by decide, show ¬ (7 : Int) = 10 by decide, show ¬ (7 : Int) = 12 by decide, show ¬ (7 : Int) = 11 by decide, if_false, if_true] at hE
  have HE := Lib.hid hE
  clear hE HEQ
  obtain ⟨va, vc, rfl, _⟩ := HROW.out
  have hmx : (stk.drop fr).length ≤ maxLen := by unfold maxLen; omega
  have HROW1 : RowV (Mine M V.heap.size) w4 (.slice va q vc) (stk.drop fr).length (expCells (stk.drop fr)) := by rw [hdl]; exact HROW.out
  have hpp : pushP p (stripX (.mk fop (k : Int) fs (.slice fla fl.length flc) fl)) (lo.map stripX) ((stk.drop fr).map stripX) ⟨7, ia, ib2⟩ (tick s) = (stripX (.mk 7 ia ⟨#[]⟩ (.slice va q vc) (stk.drop fr)), tick s) := by unfold pushP; simp only [show ¬ (7 : Int) = 1 by decide, show ¬ (7 : Int) = 2 by decide, show ¬ (7 : Int) = 3 by decide, show ¬ (7 : Int) = 5 by decide, show ¬ (7 : Int) = 6 by decide, show ¬ (7 : Int) = 10 by decide, show ¬ (7 : Int) = 12 by decide, show ¬ (7 : Int) = 11 by decide, if_false, if_true, stripX_mk, stripL_map, List.map_nil]
  rw [hpp] at HE
  have hE := HE.out
  have hx0 : ¬ (stripX (.mk 7 ia ⟨#[]⟩ (.slice va q vc) (stk.drop fr))).op = 0 := by rw [strip_op]; show ¬ (7 : Int) = 0; decide
  simp only [hx0, if_false] at hE
  have HE5 := Lib.hid hE
  clear hE HE hpp hx0
  have HB5 := Lib.hid (HB4.out.free (grown_alloc w4 (.cells #[.int .i64 7, .int .i64 ia, .string ⟨#[]⟩, .slice va q vc] 77)))
  have HK5 := Lib.hid (HK4.out.trans (keepV_grown (grown_alloc w4 (.cells #[.int .i64 7, .int .i64 ia, .string ⟨#[]⟩, .slice va q vc] 77))))
  have hxw : IsV (Mine M V.heap.size) w4 (.mk 7 ia ⟨#[]⟩ (.slice va q vc) (stk.drop fr)) := .mk HROW1 hmx (fun y hy => HVS.out y (List.mem_of_mem_drop hy))
  have HX5 := Lib.hid (hxw.kept (keepV_grown (grown_alloc w4 (.cells #[.int .i64 7, .int .i64 ia, .string ⟨#[]⟩, .slice va q vc] 77))))
  have HXO5 : Hid (ValOk p (stripX (.mk 7 ia ⟨#[]⟩ (.slice va q vc) (stk.drop fr)))) := Lib.hid (by rw [stripX_mk]; exact .mk (fun _ => by have h7 := HRR.out.2.2.2.1 rfl; simp only at h7; refine ⟨h7.1.1, by omega, ?_⟩; rw [stripL_map, List.length_map, hdl, ← hq, ← h7.2]; have hc7 := ((head_iff _).1 (hp.head ia.toNat (by omega))).1; rw [pops_7 _ _ (by rw [h7.2]; exact hc7)]; omega) (fun h => by cases h) (fun y hy => by rw [stripL_map] at hy; obtain ⟨z, hz, rfl⟩ := List.mem_map.1 hy; exact HL.out.stkok z (List.mem_of_mem_drop hz)))
  clear hxw
  have HT5 : Hid ((tick s).steps ≤ fuel) := Lib.hid (step_le htop hsf)
  have HS5 : Hid (s.steps + 1 ≤ (tick s).steps) := Lib.hid (Int.le_refl _)
  have HO5 : Hid ((tick s).out.length ≤ 1000) := Lib.hid HL.out.out
  have hnon : a = none → fr = 0 ∧ fr = 0 := fun e => by rcases HASH.out with ⟨_, h2⟩ | ⟨g, h2⟩; (subst h2; exact ⟨by simpa using hfr, by simpa using hfr⟩); (rw [h2] at e; cases e)
  have hrow5 := HL.out.stack.kept HK5.out
  have j0a := cell_alloc_some j0 (.cells #[.int .i64 0, .int .i64 0, .string ⟨#[]⟩, .slice none 0 0] 77)
  have j1a := cell_alloc_some j1 (.cells #[.int .i64 0, .int .i64 0, .string ⟨#[]⟩, .slice none 0 0] 77)
  have j2a := cell_alloc_some j2 (.cells #[.int .i64 0, .int .i64 0, .string ⟨#[]⟩, .slice none 0 0] 77)
  have hst4 := (eight_cells HB5.out.sst.blk).2.2.2.2.1
  have hst := (eight_cells HL.out.base.sst.blk).2.2.2.2.1
  have h1c4 : ∀ u ∈ ([.int .i64 7, .int .i64 ia, .string ⟨#[]⟩, .slice va q vc] : List Value), u.oneCell' = true := by intro u hu; simp only [List.mem_cons, List.not_mem_nil, or_false] at hu; rcases hu with rfl | rfl | rfl | rfl <;> rfl
  go_wp2_with (first
    | (refine wpList_slice_of rfl _ _ _ _ _ rfl _ (hsl2 _) ?_)
    | (at_builtin; refine wpList_append_grows _ rfl _ _ 75 rfl 77 iV (.agg nil47) 4 56 Tryz.underlying75 iVhii iVz0 iVz1 iVz2 rfl (by decide) a fr fr (expCells (stk.take fr)) rfl hnon ?d1x6 ?d2x6 _ 1 1 [.int .i64 7, .int .i64 ia, .string ⟨#[]⟩, .slice va q vc] rfl rfl ?d3x6 h1c4 (Nat.lt_succ_self _) ?d5x6 ?d6x6 ?_))
  try case d1x6 => rw [expCells_length, List.length_take]; omega
  try case d2x6 => intro b hb j u hj; exact row_cells (rowV_sub (HL.out.stack.kept (HK5.out.trans (keepV_grown (grown_alloc _ _)))) fr hfr) hb hj
  try case d3x6 => exact World.news_of_block (cs := #[.int .i64 7, .int .i64 ia, .string ⟨#[]⟩, .slice va q vc]) (heap_alloc_at (by simp) _)
  try case d5x6 => unfold maxLen; omega
  try case d6x6 => omega
  intro v6 w6 hown6 hgrow6
  have hj := Lib.hid (push_end HL.out HB5.out HK5.out hfr (fun b hb => Nat.lt_of_lt_of_le (hltm b hb) (by simp; omega)) HX5.out HXO5.out HE5.out HS5.out HT5.out HO5.out (by omega) (by omega) (grown_alloc _ _) (by simp) hown6 hgrow6)
  have hst6 := (eight_cells hj.out.base.sst.blk).2.2.2.2.1
  clear hown6 hgrow6
  go_wp2_with fail
  refine Handed.intro (mu _) ?_ (hJ _ _ _ ⟨rfl, rfl, rfl, (by rw [hrel0]; exact ⟨_, _, _, _, _, _, rfl, hj⟩), rfl⟩)
  rw [← hmu, hmu0]
  simp only [hst6, hst, Option.getD_some, intOf]
  exact mu_less htop hsf HS5.out
set_option maxRecDepth 100000 in
set_option maxHeartbeats 16000000 in
theorem arm_9 : ArmOk 9 := by
  intro p hp fuel hfu G HIH M w0 sb tv st ov V hw0 hM fop fs fl aop an asx al k fb foff fc HB hsb fdc fdd fdcode cc fla flc h7 HFO ala alc HP R L1 HOV hkp mu hmu0 rel nn wr hmu J K K1 hJ hK stk lo s o2 m he hsf t at1 ib ioff hlenF HFN hfk hrel0 hw2 ia ib2 q hat w3 hz3 hq1000 hlen a c HL hc HASH fr hfq hfr hfrom hsl2 hdl hltm v4 w4 HB4 HK4 HROW HS2 HVS hz4 hbx4 hfi HRI hq act hsz hdf hpre h15 h16
  have at0 : (0 : Int) ≤ (t : Int) := by omega
  have htop := HL.out.top
  have hpos := HL.out.pos
  have hgas := HL.out.gas
  have hsmall := HL.out.small
  obtain ⟨iV, iVhii, iVz0, iVz1, iVz2⟩ := parts_info info_valK
  have j0 : w4.cell? ⟨wr.heap.size, 0, none⟩ = some (.int .i64 9) := by simp [World.cell?, hbx4]
  have j1 : w4.cell? ⟨wr.heap.size, 1, none⟩ = some (.int .i64 ia) := by simp [World.cell?, hbx4]
  have j2 : w4.cell? ⟨wr.heap.size, 2, none⟩ = some (.int .i64 ib2) := by simp [World.cell?, hbx4]
  have HRR := Lib.hid (right_rest HRI.out)
  have heq := HL.out.eq
  rw [runP, HFN.out] at heq
  simp only at heq
  rw [if_neg (by simpa using he), if_neg (by omega), if_neg hsf, Int.toNat_natCast, hfi, hq, List.length_map, if_neg hlen, hfrom, ← List.map_drop, ← List.map_take] at heq
  have HEQ := Lib.hid heq
  clear heq hbx4
  have hsfb : (s.steps == fuel) = false := beq_eq_false_iff_ne.2 hsf
  revert hpre h15 h16
  refine act_lit act hsz hdf ?_
  clear hsz hdf act
  intro u0 u1 u2 u3 u4 u5 u6 u7 u8 u9 u10 u11 u12 u13 u14 u15 u16
  intros
  rename_i hpre h15 h16
  change [u0, u1, u2, u3, u4, u5, u6, u7, u8, u9, u10, u11] = _ at hpre
  cases hpre
  change u15 = _ at h15
  change u16 = _ at h16
  subst h15 h16
  simp only [callRest, seqR, seqL, insideC, Tryz.f29, Option.getD_some]
  have hE := HEQ.out
  simp only [show ¬ (9 : Int) = 14 by decide, show ¬ (9 : Int) = 16 by decide, show ¬ (9 : Int) = 4 by decide, show ¬ (9 : Int) = 13 by decide, show ¬ (9 : Int) = 8 by decide, show ¬ (9 : Int) = 1 by decide, show ¬ (9 : Int) = 2 by decide, show ¬ (9 : Int) = 3 by decide, show ¬ (9 : Int) = 5 by decide, show ¬ (9 : Int) = 6 by decide, show ¬ (9 : Int) = 7 by decide, show ¬ (9 : Int) = 10 by decide, show ¬ (9 : Int) = 12 by decide, show ¬ (9 : Int) = 11 by decide, if_false, if_true] at hE
  have HE := Lib.hid hE
  clear hE HEQ
  obtain rfl : q = 1 := hq.symm.trans rfl
  obtain ⟨x, hx⟩ : ∃ x, stk.drop fr = [x] := List.length_eq_one_iff.1 hdl
  rw [hx] at HROW HE
  have hxm : x ∈ stk := List.mem_of_mem_drop (by rw [hx]; exact List.mem_singleton_self x)
  have HX := Lib.hid (HVS.out x hxm)
  have HXO := Lib.hid (HL.out.stkok x hxm)
  obtain ⟨g4, off4, c4, rfl, hc4, hm4, hg4, x0, x1, x2, x3⟩ := rowV_at (l := [x]) HROW.out 0 (by simp)
  obtain ⟨xo, xn, xs, xv, xl⟩ := x
  obtain ⟨xa, xc, rfl, _⟩ := HX.out.parts.1
  simp only [Nat.zero_mul, Nat.add_zero, List.getD, List.getElem?_cons_zero, Option.getD_some, ExpD.op, ExpD.n, ExpD.s, ExpD.lv, List.length_singleton] at x0 x1 x2 x3 hc4
  simp only [List.map_cons, List.map_nil, List.headD_cons] at HE
  have n2 := HB4.out.boxr
  have HXX := Lib.hid (exit_val HB4.out hsb HX.out HE.out #[.int .i64 xo, .int .i64 xn, .string xs, .slice xa xl.length xc])
  go_wp2_with (first
    | (refine wpList_slice_of rfl _ _ _ _ _ rfl _ (hsl2 _) ?_)
    | (refine wpList_store_row rfl 77 _ _ rfl (V.heap.size + 2) #[.int .i64 xo, .int .i64 xn, .string xs, .slice xa xl.length xc] rfl rfl 77 nil47 n2 info47 rfl (all_one _ rfl) ?_))
  exact bodyPost_ret (results_cell_row rfl _ _ (V.heap.size + 2) 77 _ (0, 0) _ rfl (setRow_heap _ _ _ _ _ _ n2) Tryz.underlying77 rfl info47) rfl HXX.out
set_option maxRecDepth 100000 in
set_option maxHeartbeats 16000000 in
theorem arm_10 : ArmOk 10 := by
  intro p hp fuel hfu G HIH M w0 sb tv st ov V hw0 hM fop fs fl aop an asx al k fb foff fc HB hsb fdc fdd fdcode cc fla flc h7 HFO ala alc HP R L1 HOV hkp mu hmu0 rel nn wr hmu J K K1 hJ hK stk lo s o2 m he hsf t at1 ib ioff hlenF HFN hfk hrel0 hw2 ia ib2 q hat w3 hz3 hq1000 hlen a c HL hc HASH fr hfq hfr hfrom hsl2 hdl hltm v4 w4 HB4 HK4 HROW HS2 HVS hz4 hbx4 hfi HRI hq act hsz hdf hpre h15 h16
  have at0 : (0 : Int) ≤ (t : Int) := by omega
  have htop := HL.out.top
  have hpos := HL.out.pos
  have hgas := HL.out.gas
  have hsmall := HL.out.small
  obtain ⟨iV, iVhii, iVz0, iVz1, iVz2⟩ := parts_info info_valK
  have j0 : w4.cell? ⟨wr.heap.size, 0, none⟩ = some (.int .i64 10) := by simp [World.cell?, hbx4]
  have j1 : w4.cell? ⟨wr.heap.size, 1, none⟩ = some (.int .i64 ia) := by simp [World.cell?, hbx4]
  have j2 : w4.cell? ⟨wr.heap.size, 2, none⟩ = some (.int .i64 ib2) := by simp [World.cell?, hbx4]
  have HRR := Lib.hid (right_rest HRI.out)
  have heq := HL.out.eq
  rw [runP, HFN.out] at heq
  simp only at heq
  rw [if_neg (by simpa using he), if_neg (by omega), if_neg hsf, Int.toNat_natCast, hfi, hq, List.length_map, if_neg hlen, hfrom, ← List.map_drop, ← List.map_take] at heq
  have HEQ := Lib.hid heq
  clear heq hbx4
  have hsfb : (s.steps == fuel) = false := beq_eq_false_iff_ne.2 hsf
  revert hpre h15 h16
  refine act_lit act hsz hdf ?_
  clear hsz hdf act
  intro u0 u1 u2 u3 u4 u5 u6 u7 u8 u9 u10 u11 u12 u13 u14 u15 u16
  intros
  rename_i hpre h15 h16
  change [u0, u1, u2, u3, u4, u5, u6, u7, u8, u9, u10, u11] = _ at hpre
  cases hpre
  change u15 = _ at h15
  change u16 = _ at h16
  subst h15 h16
  simp only [callRest, seqR, seqL, insideC, Tryz.f29, Option.getD_some]
  have hE := HEQ.out
  simp only [show ¬ (10 : Int) = 9 by decide, show ¬ (10 : Int) = 14 by decide, show ¬ (10 : Int) = 16 by decide, show ¬ (10 : Int) = 4 by decide, show ¬ (10 : Int) = 13 by decide, show ¬ (10 : Int) = 8 by decide, show ¬ (10 : Int) = 1 by decide, show ¬ (10 : Int) = 2 by decide, show ¬ (10 : Int) = 3 by decide, show ¬ (10 : Int) = 5 by decide, show ¬ (10 : Int) = 6 by decide, show ¬ (10 : Int) = 7 by decide, show ¬ (10 : Int) = 12 by decide, show ¬ (10 : Int) = 11 by decide, if_false, if_true] at hE
  have HE := Lib.hid hE
  clear hE HEQ
  obtain ⟨va, vc, rfl, _⟩ := HROW.out
  have hmx : (stk.drop fr).length ≤ maxLen := by unfold maxLen; omega
  have HROW1 : RowV (Mine M V.heap.size) w4 (.slice va q vc) (stk.drop fr).length (expCells (stk.drop fr)) := by rw [hdl]; exact HROW.out
  have hpp : pushP p (stripX (.mk fop (k : Int) fs (.slice fla fl.length flc) fl)) (lo.map stripX) ((stk.drop fr).map stripX) ⟨10, ia, ib2⟩ (tick s) = (stripX (.mk 3 0 ⟨#[]⟩ (.slice va q vc) (stk.drop fr)), tick s) := by unfold pushP; simp only [show ¬ (10 : Int) = 1 by decide, show ¬ (10 : Int) = 2 by decide, show ¬ (10 : Int) = 3 by decide, show ¬ (10 : Int) = 5 by decide, show ¬ (10 : Int) = 6 by decide, show ¬ (10 : Int) = 7 by decide, show ¬ (10 : Int) = 12 by decide, show ¬ (10 : Int) = 11 by decide, if_false, if_true, stripX_mk, stripL_map, List.map_nil]
  rw [hpp] at HE
  have hE := HE.out
  have hx0 : ¬ (stripX (.mk 3 0 ⟨#[]⟩ (.slice va q vc) (stk.drop fr))).op = 0 := by rw [strip_op]; show ¬ (3 : Int) = 0; decide
  simp only [hx0, if_false] at hE
  have HE5 := Lib.hid hE
  clear hE HE hpp hx0
  have HB5 := Lib.hid (HB4.out.free (grown_alloc w4 (.cells #[.int .i64 3, .int .i64 0, .string ⟨#[]⟩, .slice va q vc] 77)))
  have HK5 := Lib.hid (HK4.out.trans (keepV_grown (grown_alloc w4 (.cells #[.int .i64 3, .int .i64 0, .string ⟨#[]⟩, .slice va q vc] 77))))
  have hxw : IsV (Mine M V.heap.size) w4 (.mk 3 0 ⟨#[]⟩ (.slice va q vc) (stk.drop fr)) := .mk HROW1 hmx (fun y hy => HVS.out y (List.mem_of_mem_drop hy))
  have HX5 := Lib.hid (hxw.kept (keepV_grown (grown_alloc w4 (.cells #[.int .i64 3, .int .i64 0, .string ⟨#[]⟩, .slice va q vc] 77))))
  have HXO5 : Hid (ValOk p (stripX (.mk 3 0 ⟨#[]⟩ (.slice va q vc) (stk.drop fr)))) := Lib.hid (by rw [stripX_mk]; exact .mk (fun h => by cases h) (fun h => by cases h) (fun y hy => by rw [stripL_map] at hy; obtain ⟨z, hz, rfl⟩ := List.mem_map.1 hy; exact HL.out.stkok z (List.mem_of_mem_drop hz)))
  clear hxw
  have HT5 : Hid ((tick s).steps ≤ fuel) := Lib.hid (step_le htop hsf)
  have HS5 : Hid (s.steps + 1 ≤ (tick s).steps) := Lib.hid (Int.le_refl _)
  have HO5 : Hid ((tick s).out.length ≤ 1000) := Lib.hid HL.out.out
  have hnon : a = none → fr = 0 ∧ fr = 0 := fun e => by rcases HASH.out with ⟨_, h2⟩ | ⟨g, h2⟩; (subst h2; exact ⟨by simpa using hfr, by simpa using hfr⟩); (rw [h2] at e; cases e)
  have hrow5 := HL.out.stack.kept HK5.out
  have j0a := cell_alloc_some j0 (.cells #[.int .i64 0, .int .i64 0, .string ⟨#[]⟩, .slice none 0 0] 77)
  have j1a := cell_alloc_some j1 (.cells #[.int .i64 0, .int .i64 0, .string ⟨#[]⟩, .slice none 0 0] 77)
  have j2a := cell_alloc_some j2 (.cells #[.int .i64 0, .int .i64 0, .string ⟨#[]⟩, .slice none 0 0] 77)
  have hst4 := (eight_cells HB5.out.sst.blk).2.2.2.2.1
  have hst := (eight_cells HL.out.base.sst.blk).2.2.2.2.1
  have h1c4 : ∀ u ∈ ([.int .i64 3, .int .i64 0, .string ⟨#[]⟩, .slice va q vc] : List Value), u.oneCell' = true := by intro u hu; simp only [List.mem_cons, List.not_mem_nil, or_false] at hu; rcases hu with rfl | rfl | rfl | rfl <;> rfl
  go_wp2_with (first
    | (refine wpList_slice_of rfl _ _ _ _ _ rfl _ (hsl2 _) ?_)
    | (at_builtin; refine wpList_append_grows _ rfl _ _ 75 rfl 77 iV (.agg nil47) 4 56 Tryz.underlying75 iVhii iVz0 iVz1 iVz2 rfl (by decide) a fr fr (expCells (stk.take fr)) rfl hnon ?d1x7 ?d2x7 _ 1 1 [.int .i64 3, .int .i64 0, .string ⟨#[]⟩, .slice va q vc] rfl rfl ?d3x7 h1c4 (Nat.lt_succ_self _) ?d5x7 ?d6x7 ?_))
  try case d1x7 => rw [expCells_length, List.length_take]; omega
  try case d2x7 => intro b hb j u hj; exact row_cells (rowV_sub (HL.out.stack.kept (HK5.out.trans (keepV_grown (grown_alloc _ _)))) fr hfr) hb hj
  try case d3x7 => exact World.news_of_block (cs := #[.int .i64 3, .int .i64 0, .string ⟨#[]⟩, .slice va q vc]) (heap_alloc_at (by simp) _)
  try case d5x7 => unfold maxLen; omega
  try case d6x7 => omega
  intro v6 w6 hown6 hgrow6
  have hj := Lib.hid (push_end HL.out HB5.out HK5.out hfr (fun b hb => Nat.lt_of_lt_of_le (hltm b hb) (by simp; omega)) HX5.out HXO5.out HE5.out HS5.out HT5.out HO5.out (by omega) (by omega) (grown_alloc _ _) (by simp) hown6 hgrow6)
  have hst6 := (eight_cells hj.out.base.sst.blk).2.2.2.2.1
  clear hown6 hgrow6
  go_wp2_with fail
  refine Handed.intro (mu _) ?_ (hJ _ _ _ ⟨rfl, rfl, rfl, (by rw [hrel0]; exact ⟨_, _, _, _, _, _, rfl, hj⟩), rfl⟩)
  rw [← hmu, hmu0]
  simp only [hst6, hst, Option.getD_some, intOf]
  exact mu_less htop hsf HS5.out
set_option maxRecDepth 100000 in
set_option maxHeartbeats 16000000 in
theorem arm_12 : ArmOk 12 := by
  intro p hp fuel hfu G HIH M w0 sb tv st ov V hw0 hM fop fs fl aop an asx al k fb foff fc HB hsb fdc fdd fdcode cc fla flc h7 HFO ala alc HP R L1 HOV hkp mu hmu0 rel nn wr hmu J K K1 hJ hK stk lo s o2 m he hsf t at1 ib ioff hlenF HFN hfk hrel0 hw2 ia ib2 q hat w3 hz3 hq1000 hlen a c HL hc HASH fr hfq hfr hfrom hsl2 hdl hltm v4 w4 HB4 HK4 HROW HS2 HVS hz4 hbx4 hfi HRI hq act hsz hdf hpre h15 h16
  have at0 : (0 : Int) ≤ (t : Int) := by omega
  have htop := HL.out.top
  have hpos := HL.out.pos
  have hgas := HL.out.gas
  have hsmall := HL.out.small
  obtain ⟨iV, iVhii, iVz0, iVz1, iVz2⟩ := parts_info info_valK
  have j0 : w4.cell? ⟨wr.heap.size, 0, none⟩ = some (.int .i64 12) := by simp [World.cell?, hbx4]
  have j1 : w4.cell? ⟨wr.heap.size, 1, none⟩ = some (.int .i64 ia) := by simp [World.cell?, hbx4]
  have j2 : w4.cell? ⟨wr.heap.size, 2, none⟩ = some (.int .i64 ib2) := by simp [World.cell?, hbx4]
  have HRR := Lib.hid (right_rest HRI.out)
  have heq := HL.out.eq
  rw [runP, HFN.out] at heq
  simp only at heq
  rw [if_neg (by simpa using he), if_neg (by omega), if_neg hsf, Int.toNat_natCast, hfi, hq, List.length_map, if_neg hlen, hfrom, ← List.map_drop, ← List.map_take] at heq
  have HEQ := Lib.hid heq
  clear heq hbx4
  have hsfb : (s.steps == fuel) = false := beq_eq_false_iff_ne.2 hsf
  revert hpre h15 h16
  refine act_lit act hsz hdf ?_
  clear hsz hdf act
  intro u0 u1 u2 u3 u4 u5 u6 u7 u8 u9 u10 u11 u12 u13 u14 u15 u16
  intros
  rename_i hpre h15 h16
  change [u0, u1, u2, u3, u4, u5, u6, u7, u8, u9, u10, u11] = _ at hpre
  cases hpre
  change u15 = _ at h15
  change u16 = _ at h16
  subst h15 h16
  simp only [callRest, seqR, seqL, insideC, Tryz.f29, Option.getD_some]
  have hE := HEQ.out
  simp only [show ¬ (12 : Int) = 9 by decide, show ¬ (12 : Int) = 14 by decide, show ¬ (12 : Int) = 16 by decide, show ¬ (12 : Int) = 4 by decide, show ¬ (12 : Int) = 13 by decide, show ¬ (12 : Int) = 8 by decide, show ¬ (12 : Int) = 1 by decide, show ¬ (12 : Int) = 2 by decide, show ¬ (12 : Int) = 3 by decide, show ¬ (12 : Int) = 5 by decide, show ¬ (12 : Int) = 6 by decide, show ¬ (12 : Int) = 7 by decide, show ¬ (12 : Int) = 10 by decide, show ¬ (12 : Int) = 11 by decide, if_false, if_true] at hE
  have HE := Lib.hid hE
  clear hE HEQ
  obtain ⟨va, vc, rfl, _⟩ := HROW.out
  have hmx : (stk.drop fr).length ≤ maxLen := by unfold maxLen; omega
  have HROW1 : RowV (Mine M V.heap.size) w4 (.slice va q vc) (stk.drop fr).length (expCells (stk.drop fr)) := by rw [hdl]; exact HROW.out
  have hpp : pushP p (stripX (.mk fop (k : Int) fs (.slice fla fl.length flc) fl)) (lo.map stripX) ((stk.drop fr).map stripX) ⟨12, ia, ib2⟩ (tick s) = (stripX (.mk 4 ia ⟨#[]⟩ (.slice va q vc) (stk.drop fr)), tick s) := by unfold pushP; simp only [show ¬ (12 : Int) = 1 by decide, show ¬ (12 : Int) = 2 by decide, show ¬ (12 : Int) = 3 by decide, show ¬ (12 : Int) = 5 by decide, show ¬ (12 : Int) = 6 by decide, show ¬ (12 : Int) = 7 by decide, show ¬ (12 : Int) = 10 by decide, show ¬ (12 : Int) = 11 by decide, if_false, if_true, stripX_mk, stripL_map, List.map_nil]
  rw [hpp] at HE
  have hE := HE.out
  have hx0 : ¬ (stripX (.mk 4 ia ⟨#[]⟩ (.slice va q vc) (stk.drop fr))).op = 0 := by rw [strip_op]; show ¬ (4 : Int) = 0; decide
  simp only [hx0, if_false] at hE
  have HE5 := Lib.hid hE
  clear hE HE hpp hx0
  have HB5 := Lib.hid (HB4.out.free (grown_alloc w4 (.cells #[.int .i64 4, .int .i64 ia, .string ⟨#[]⟩, .slice va q vc] 77)))
  have HK5 := Lib.hid (HK4.out.trans (keepV_grown (grown_alloc w4 (.cells #[.int .i64 4, .int .i64 ia, .string ⟨#[]⟩, .slice va q vc] 77))))
  have hxw : IsV (Mine M V.heap.size) w4 (.mk 4 ia ⟨#[]⟩ (.slice va q vc) (stk.drop fr)) := .mk HROW1 hmx (fun y hy => HVS.out y (List.mem_of_mem_drop hy))
  have HX5 := Lib.hid (hxw.kept (keepV_grown (grown_alloc w4 (.cells #[.int .i64 4, .int .i64 ia, .string ⟨#[]⟩, .slice va q vc] 77))))
  have HXO5 : Hid (ValOk p (stripX (.mk 4 ia ⟨#[]⟩ (.slice va q vc) (stk.drop fr)))) := Lib.hid (by rw [stripX_mk]; exact .mk (fun h => by cases h) (fun _ => by have h12 := HRR.out.2.2.2.2.2.1 (.inr rfl); simp only at h12; refine ⟨?_, h12.1, by omega⟩; rw [stripL_map, List.length_map, hdl, ← hq, pops_12 rfl]; exact Nat.le_refl _) (fun y hy => by rw [stripL_map] at hy; obtain ⟨z, hz, rfl⟩ := List.mem_map.1 hy; exact HL.out.stkok z (List.mem_of_mem_drop hz)))
  clear hxw
  have HT5 : Hid ((tick s).steps ≤ fuel) := Lib.hid (step_le htop hsf)
  have HS5 : Hid (s.steps + 1 ≤ (tick s).steps) := Lib.hid (Int.le_refl _)
  have HO5 : Hid ((tick s).out.length ≤ 1000) := Lib.hid HL.out.out
  have hnon : a = none → fr = 0 ∧ fr = 0 := fun e => by rcases HASH.out with ⟨_, h2⟩ | ⟨g, h2⟩; (subst h2; exact ⟨by simpa using hfr, by simpa using hfr⟩); (rw [h2] at e; cases e)
  have hrow5 := HL.out.stack.kept HK5.out
  have j0a := cell_alloc_some j0 (.cells #[.int .i64 0, .int .i64 0, .string ⟨#[]⟩, .slice none 0 0] 77)
  have j1a := cell_alloc_some j1 (.cells #[.int .i64 0, .int .i64 0, .string ⟨#[]⟩, .slice none 0 0] 77)
  have j2a := cell_alloc_some j2 (.cells #[.int .i64 0, .int .i64 0, .string ⟨#[]⟩, .slice none 0 0] 77)
  have hst4 := (eight_cells HB5.out.sst.blk).2.2.2.2.1
  have hst := (eight_cells HL.out.base.sst.blk).2.2.2.2.1
  have h1c4 : ∀ u ∈ ([.int .i64 4, .int .i64 ia, .string ⟨#[]⟩, .slice va q vc] : List Value), u.oneCell' = true := by intro u hu; simp only [List.mem_cons, List.not_mem_nil, or_false] at hu; rcases hu with rfl | rfl | rfl | rfl <;> rfl
  go_wp2_with (first
    | (refine wpList_slice_of rfl _ _ _ _ _ rfl _ (hsl2 _) ?_)
    | (at_builtin; refine wpList_append_grows _ rfl _ _ 75 rfl 77 iV (.agg nil47) 4 56 Tryz.underlying75 iVhii iVz0 iVz1 iVz2 rfl (by decide) a fr fr (expCells (stk.take fr)) rfl hnon ?d1x8 ?d2x8 _ 1 1 [.int .i64 4, .int .i64 ia, .string ⟨#[]⟩, .slice va q vc] rfl rfl ?d3x8 h1c4 (Nat.lt_succ_self _) ?d5x8 ?d6x8 ?_))
  try case d1x8 => rw [expCells_length, List.length_take]; omega
  try case d2x8 => intro b hb j u hj; exact row_cells (rowV_sub (HL.out.stack.kept (HK5.out.trans (keepV_grown (grown_alloc _ _)))) fr hfr) hb hj
  try case d3x8 => exact World.news_of_block (cs := #[.int .i64 4, .int .i64 ia, .string ⟨#[]⟩, .slice va q vc]) (heap_alloc_at (by simp) _)
  try case d5x8 => unfold maxLen; omega
  try case d6x8 => omega
  intro v6 w6 hown6 hgrow6
  have hj := Lib.hid (push_end HL.out HB5.out HK5.out hfr (fun b hb => Nat.lt_of_lt_of_le (hltm b hb) (by simp; omega)) HX5.out HXO5.out HE5.out HS5.out HT5.out HO5.out (by omega) (by omega) (grown_alloc _ _) (by simp) hown6 hgrow6)
  have hst6 := (eight_cells hj.out.base.sst.blk).2.2.2.2.1
  clear hown6 hgrow6
  go_wp2_with fail
  refine Handed.intro (mu _) ?_ (hJ _ _ _ ⟨rfl, rfl, rfl, (by rw [hrel0]; exact ⟨_, _, _, _, _, _, rfl, hj⟩), rfl⟩)
  rw [← hmu, hmu0]
  simp only [hst6, hst, Option.getD_some, intOf]
  exact mu_less htop hsf HS5.out
end Go.Proofs.YtidolpcbbbakmaaGreat
