/- call of the reference of layer 47: operations 15. -/
import Derived.Test.YtidolpcbbbakmaaGreatM46
namespace Go.Proofs.YtidolpcbbbakmaaGreat
open Go Go.RowKit
set_option maxRecDepth 100000 in
set_option maxHeartbeats 16000000 in
theorem arm_15 : ArmOk 15 := by
  intro p hp fuel hfu G HIH M w0 sb tv st ov V hw0 hM fop fs fl aop an asx al k fb foff fc HB hsb fdc fdd fdcode cc fla flc h7 HFO ala alc HP R L1 HOV hkp mu hmu0 rel nn wr hmu J K K1 hJ hK stk lo s o2 m he hsf t at1 ib ioff hlenF HFN hfk hrel0 hw2 ia ib2 q hat w3 hz3 hq1000 hlen a c HL hc HASH fr hfq hfr hfrom hsl2 hdl hltm v4 w4 HB4 HK4 HROW HS2 HVS hz4 hbx4 hfi HRI hq act hsz hdf hpre h15 h16
  have at0 : (0 : Int) ≤ (t : Int) := by omega
  have htop := HL.out.top
  have hpos := HL.out.pos
  have hgas := HL.out.gas
  have hsmall := HL.out.small
  obtain ⟨iV, iVhii, iVz0, iVz1, iVz2⟩ := parts_info info_valK
  have j0 : w4.cell? ⟨wr.heap.size, 0, none⟩ = some (.int .i64 15) := by simp [World.cell?, hbx4]
  have j1 : w4.cell? ⟨wr.heap.size, 1, none⟩ = some (.int .i64 ia) := by simp [World.cell?, hbx4]
  have j2 : w4.cell? ⟨wr.heap.size, 2, none⟩ = some (.int .i64 ib2) := by simp [World.cell?, hbx4]
  have HRR := Lib.hid (right_rest HRI.out)
  have heq := HL.out.eq
  rw [runP, HFN.out] at heq
  simp only at heq
  rw [if_neg (by simpa using he), if_neg (by omega), if_neg hsf, Int.toNat_natCast, hfi, hq, List.length_map, if_neg hlen, hfrom, ← List.map_drop, ← List.map_take] at heq
  have HEQ := Lib.hid heq
  clear heq hbx4
  have hsfb : (s.steps == fuel) = false := beq_eq_false_iff_ne.2 hsf
  revert hpre h15 h16
  refine act_lit act hsz hdf ?_
  clear hsz hdf act
  intro u0 u1 u2 u3 u4 u5 u6 u7 u8 u9 u10 u11 u12 u13 u14 u15 u16
  intros
  rename_i hpre h15 h16
  change [u0, u1, u2, u3, u4, u5, u6, u7, u8, u9, u10, u11] = _ at hpre
  cases hpre
  change u15 = _ at h15
  change u16 = _ at h16
  subst h15 h16
  simp only [callRest, seqR, seqL, insideC, Tryz.f29, Option.getD_some]
  have hE := HEQ.out
  simp only [show ¬ (15 : Int) = 9 by decide, show ¬ (15 : Int) = 14 by decide, show ¬ (15 : Int) = 16 by decide, show ¬ (15 : Int) = 4 by decide, show ¬ (15 : Int) = 13 by decide, show ¬ (15 : Int) = 8 by decide, show ¬ (15 : Int) = 1 by decide, show ¬ (15 : Int) = 2 by decide, show ¬ (15 : Int) = 3 by decide, show ¬ (15 : Int) = 5 by decide, show ¬ (15 : Int) = 6 by decide, show ¬ (15 : Int) = 7 by decide, show ¬ (15 : Int) = 10 by decide, show ¬ (15 : Int) = 12 by decide, show ¬ (15 : Int) = 11 by decide, if_false, if_true] at hE
  have HE := Lib.hid hE
  clear hE HEQ
  obtain ⟨va, vc, rfl, _⟩ := HROW.out
  have hmx : (stk.drop fr).length ≤ maxLen := by unfold maxLen; omega
  have HROW1 : RowV (Mine M V.heap.size) w4 (.slice va q vc) (stk.drop fr).length (expCells (stk.drop fr)) := by rw [hdl]; exact HROW.out
  have hR := HRR.out.2.2.2.2.2.2.2.2 rfl
  simp only at hR
  have hm12 : (stk.drop fr).length = 1 ∨ (stk.drop fr).length = 2 := by rw [hdl, ← hq]; exact pops_15 _ _ hR
  have hpp : pushP p (stripX (.mk fop (k : Int) fs (.slice fla fl.length flc) fl)) (lo.map stripX) ((stk.drop fr).map stripX) ⟨15, ia, ib2⟩ (tick s) = applyQ (tick s) (primQ ia ((stk.drop fr).map stripX)) := by unfold pushP; simp only [show ¬ (15 : Int) = 1 by decide, show ¬ (15 : Int) = 2 by decide, show ¬ (15 : Int) = 3 by decide, show ¬ (15 : Int) = 5 by decide, show ¬ (15 : Int) = 6 by decide, show ¬ (15 : Int) = 7 by decide, show ¬ (15 : Int) = 10 by decide, show ¬ (15 : Int) = 12 by decide, show ¬ (15 : Int) = 11 by decide, if_false]
  rw [hpp] at HE
  clear hpp
  obtain ⟨hra, hrb, hrc⟩ := applyQ_ok p (tick s) ia ((stk.drop fr).map stripX) HL.out.out
  have g5 := grown_alloc w4 (.cells #[.int .i64 0, .int .i64 0, .string ⟨#[]⟩, .slice none 0 0] 77)
  have HC : Hid (Calls Tryz.prog 60 #[.pointer (some ⟨sb, 0, none⟩), .int .i64 ia, .slice va q vc] (w4.alloc (.cells #[.int .i64 0, .int .i64 0, .string ⟨#[]⟩, .slice none 0 0] 77)) (RunOk (Boxed (Mine M V.heap.size) w4.heap.size) sb (.slice (some ⟨fb, foff, none⟩) p.funs.length fc) tv p.main fuel o2 (applyQ (tick s) (primQ ia ((stk.drop fr).map stripX))) (w4.alloc (.cells #[.int .i64 0, .int .i64 0, .string ⟨#[]⟩, .slice none 0 0] 77)))) := Lib.hid (Prim47_any (Boxed (Mine M V.heap.size) w4.heap.size) sb _ tv p.main fuel (tick s) o2 ia _ (stk.drop fr) _ (fun b hb => by have hsA : (w4.alloc (.cells #[.int .i64 0, .int .i64 0, .string ⟨#[]⟩, .slice none 0 0] 77)).heap.size = w4.heap.size + 1 := (by simp); rw [hsA]; rcases hb with hb | hb; (have := hltm b hb; omega); omega) (HB4.out.sst.free g5) he ((HROW1.mine boxed_old).kept (keepV_grown g5)) hm12 hR.1 hR.2 HL.out.out)
  clear g5
  generalize applyQ (tick s) (primQ ia ((stk.drop fr).map stripX)) = r at HC HE hra hrb hrc
  have hr1 := Lib.hid hra
  have HT5 : Hid (r.2.steps ≤ fuel) := Lib.hid (by rw [hrc]; exact step_le htop hsf)
  have HS5 : Hid (s.steps + 1 ≤ r.2.steps) := Lib.hid (by rw [hrc]; exact Int.le_refl _)
  have HO5 : Hid (r.2.out.length ≤ 1000) := Lib.hid hrb
  clear hra hrb hrc
  have hE := HE.out
  by_cases hr0 : r.1.op = 0
  · rw [if_pos hr0] at hE
    have HEQ := Lib.hid hE
    clear hE HE
    have j0a := cell_alloc_some j0 (.cells #[.int .i64 0, .int .i64 0, .string ⟨#[]⟩, .slice none 0 0] 77)
    have j1a := cell_alloc_some j1 (.cells #[.int .i64 0, .int .i64 0, .string ⟨#[]⟩, .slice none 0 0] 77)
    have j2a := cell_alloc_some j2 (.cells #[.int .i64 0, .int .i64 0, .string ⟨#[]⟩, .slice none 0 0] 77)
    go_wp2_with (first
      | (refine wpList_slice_of rfl _ _ _ _ _ rfl _ (hsl2 _) ?_)
      | (go_at_call 60; refine HC.out.mono ?_; rintro e w6 ⟨⟨xo, xn, xs, xv, xl⟩, o3, rfl, hx, hxv, hS6, hE6⟩; obtain ⟨xa, xc, rfl, _⟩ := hxv.parts.1; rw [expV_mk]; have HAC := Lib.hid (after_call HB4.out hsb (grown_refl _) hx hxv hS6 hE6); have hxo : xo = r.1.op := (strip_op _).symm.trans (congrArg ValD.op hx); obtain ⟨n0, n1, n2, n3⟩ := cells4 HAC.out.box; have f0 := Lib.frozen_of_heap HAC.out.box 0; have f1 := Lib.frozen_of_heap HAC.out.box 1; have f2 := Lib.frozen_of_heap HAC.out.box 2; have f3 := Lib.frozen_of_heap HAC.out.box 3; clear hx hxv hS6 hE6; rw [hr0] at hxo; subst hxo)
      | (go_at_call 58; refine (stop47_any sb _ tv p.main fuel r.2 o3 4 0 _ HAC.out.base.sst).mono ?_; rintro e w2 ⟨rfl, hs2, hE2⟩; obtain ⟨n2, hP⟩ := exit_stop HAC.out.base hsb hs2 hE2 HEQ.out; have HP := Lib.hid hP; clear hP hs2 hE2)
      | (refine wpList_store_row rfl 77 _ _ rfl (V.heap.size + 2) nil47 rfl rfl 77 nil47 n2 info47 rfl (all_one _ rfl) ?_))
    exact bodyPost_ret (results_cell_row rfl _ _ (V.heap.size + 2) 77 _ (0, 0) _ rfl (setRow_heap _ _ _ _ _ _ n2) Tryz.underlying77 rfl info47) rfl HP.out
  · rw [if_neg hr0] at hE
    have HE := Lib.hid hE
    clear hE
    have hnon : a = none → fr = 0 ∧ fr = 0 := fun e => by rcases HASH.out with ⟨_, h2⟩ | ⟨g, h2⟩; (subst h2; exact ⟨by simpa using hfr, by simpa using hfr⟩); (rw [h2] at e; cases e)
    have j0a := cell_alloc_some j0 (.cells #[.int .i64 0, .int .i64 0, .string ⟨#[]⟩, .slice none 0 0] 77)
    have j1a := cell_alloc_some j1 (.cells #[.int .i64 0, .int .i64 0, .string ⟨#[]⟩, .slice none 0 0] 77)
    have j2a := cell_alloc_some j2 (.cells #[.int .i64 0, .int .i64 0, .string ⟨#[]⟩, .slice none 0 0] 77)
    have hst := (eight_cells HL.out.base.sst.blk).2.2.2.2.1
    go_wp2_with (first
      | (refine wpList_slice_of rfl _ _ _ _ _ rfl _ (hsl2 _) ?_)
      | (go_at_call 60; refine HC.out.mono ?_; rintro e w6 ⟨⟨xo, xn, xs, xv, xl⟩, o3, rfl, hx, hxv, hS6, hE6⟩; obtain ⟨xa, xc, rfl, _⟩ := hxv.parts.1; rw [expV_mk]; have HAC := Lib.hid (after_call HB4.out hsb (grown_refl _) hx hxv hS6 hE6); have hxo : xo = r.1.op := (strip_op _).symm.trans (congrArg ValD.op hx); obtain ⟨n0, n1, n2, n3⟩ := cells4 HAC.out.box; have f0 := Lib.frozen_of_heap HAC.out.box 0; have f1 := Lib.frozen_of_heap HAC.out.box 1; have f2 := Lib.frozen_of_heap HAC.out.box 2; have f3 := Lib.frozen_of_heap HAC.out.box 3; clear hx hxv hS6 hE6; have hxb : (xo == 0) = false := beq_eq_false_iff_ne.2 (by rw [hxo]; exact hr0); clear hxo; have HB5 := Lib.hid HAC.out.base; have HK5 := Lib.hid (HK4.out.trans HAC.out.keep); have HX5 := Lib.hid HAC.out.isv; have HXO5 : Hid (ValOk p (stripX (.mk xo xn xs (.slice xa xl.length xc) xl))) := Lib.hid (by rw [HAC.out.strip]; exact hr1.out); have HE5 := Lib.hid HE.out; rw [← HAC.out.strip] at HE5; have h1c4 : ∀ u ∈ ([.int .i64 xo, .int .i64 xn, .string xs, .slice xa xl.length xc] : List Value), u.oneCell' = true := by intro u hu; simp only [List.mem_cons, List.not_mem_nil, or_false] at hu; rcases hu with rfl | rfl | rfl | rfl <;> rfl)
      | (at_builtin; refine wpList_append_grows _ rfl _ _ 75 rfl 77 iV (.agg nil47) 4 56 Tryz.underlying75 iVhii iVz0 iVz1 iVz2 rfl (by decide) a fr fr (expCells (stk.take fr)) rfl hnon ?d1x11 ?d2x11 _ 1 1 [.int .i64 xo, .int .i64 xn, .string xs, .slice xa xl.length xc] rfl rfl ?d3x11 h1c4 (Nat.lt_succ_self _) ?d5x11 ?d6x11 ?_))
    try case d1x11 => rw [expCells_length, List.length_take]; omega
    try case d2x11 => intro b hb j u hj; exact row_cells (rowV_sub (HL.out.stack.kept (HK5.out.trans (keepV_grown (grown_alloc _ _)))) fr hfr) hb hj
    try case d3x11 => exact World.news_of_block (cs := #[.int .i64 xo, .int .i64 xn, .string xs, .slice xa xl.length xc]) (heap_alloc_at (by simp) _)
    try case d5x11 => unfold maxLen; omega
    try case d6x11 => omega
    intro v6 w6 hown6 hgrow6
    have hj := Lib.hid (push_end HL.out HB5.out HK5.out hfr (fun b hb => Nat.lt_of_lt_of_le (hltm b hb) (Nat.le_trans hz4 HAC.out.size)) HX5.out HXO5.out HE5.out HS5.out HT5.out HO5.out (by omega) (by omega) (grown_alloc _ _) (by simp) hown6 hgrow6)
    have hst6 := (eight_cells hj.out.base.sst.blk).2.2.2.2.1
    clear hown6 hgrow6
    go_wp2_with fail
    refine Handed.intro (mu _) ?_ (hJ _ _ _ ⟨rfl, rfl, rfl, (by rw [hrel0]; exact ⟨_, _, _, _, _, _, rfl, hj⟩), rfl⟩)
    rw [← hmu, hmu0]
    simp only [hst6, hst, Option.getD_some, intOf]
    exact mu_less htop hsf HS5.out
end Go.Proofs.YtidolpcbbbakmaaGreat
