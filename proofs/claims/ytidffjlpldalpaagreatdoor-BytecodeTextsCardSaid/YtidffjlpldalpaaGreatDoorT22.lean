/- Same of the reference, at programs that read the same. The parser with what was read so far. -/
import Derived.Test.YtidffjlpldalpaaGreatDoorT17
set_option linter.unusedVariables false
set_option linter.unusedSimpArgs false
namespace Go.Proofs.YtidffjlpldalpaaGreatDoor
open Go Go.RowKit

set_option maxHeartbeats 2000000 in
set_option maxRecDepth 100000 in
theorem sameFun_any (c l d : Int) (v v' : Value) (code : List Ins) (w : World) (h : IsCode w v code) (h' : IsCode w v' code) (hl : code.length ≤ 1000000) :
    Calls Tryz.prog 46 #[.agg #[.int .i64 c, .int .i64 l, .int .i64 d, v], .agg #[.int .i64 c, .int .i64 l, .int .i64 d, v']] w fun e w' => e = .returned (.bool true) ∧ Below w.heap.size w w' := by
  have H := Lib.hid h
  have H' := Lib.hid h'
  obtain ⟨a, cc, hv, hcc, _⟩ := h
  obtain ⟨a', cc', hv', hcc', _⟩ := h'
  subst hv hv'
  have gA : ((w.alloc (.cells #[.int .i64 c, .int .i64 l, .int .i64 d, .slice a code.length cc] 48)).alloc (.cells #[.int .i64 c, .int .i64 l, .int .i64 d, .slice a' code.length cc'] 48)).heap[w.heap.size]? = some (.cells #[.int .i64 c, .int .i64 l, .int .i64 d, .slice a code.length cc] 48 (0, 0)) := (Below.heap_alloc _ _ _ (by simp)).trans (new_heap w _)
  have gB : ((w.alloc (.cells #[.int .i64 c, .int .i64 l, .int .i64 d, .slice a code.length cc] 48)).alloc (.cells #[.int .i64 c, .int .i64 l, .int .i64 d, .slice a' code.length cc'] 48)).heap[w.heap.size + 1]? = some (.cells #[.int .i64 c, .int .i64 l, .int .i64 d, .slice a' code.length cc'] 48 (0, 0)) := (congrArg _ (by simp)).trans (new_heap (w.alloc (.cells #[.int .i64 c, .int .i64 l, .int .i64 d, .slice a code.length cc] 48)) _)
  have hb0 : Below w.heap.size w ((w.alloc (.cells #[.int .i64 c, .int .i64 l, .int .i64 d, .slice a code.length cc] 48)).alloc (.cells #[.int .i64 c, .int .i64 l, .int .i64 d, .slice a' code.length cc'] 48)) := ((Below.refl _ _).alloc (Nat.le_refl _) _).alloc (by simp) _
  go_enter Tryz.func46, Tryz.ntmps46
  go_wp2_with fail
  generalize (w.alloc (.cells #[.int .i64 c, .int .i64 l, .int .i64 d, .slice a code.length cc] 48)).alloc (.cells #[.int .i64 c, .int .i64 l, .int .i64 d, .slice a' code.length cc'] 48) = W at *
  go_loopw [5] (fun i wr => (∃ k : Nat, k ≤ code.length ∧ i = .int .i64 k) ∧ Below W.heap.size W wr) (fun i _ => code.length - (intOf i).toNat)
  case atStart => exact ⟨⟨0, Nat.zero_le _, rfl⟩, Below.refl _ _⟩
  case round =>
    obtain ⟨⟨k, hk, rfl⟩, hbr⟩ := hrel
    obtain ⟨p0, p1, p2, p3⟩ := fun_cells ((hbr.block _ (heap_lt gA)).trans gA)
    obtain ⟨q0, q1, q2, q3⟩ := fun_cells ((hbr.block _ (heap_lt gB)).trans gB)
    have hbw : Below w.heap.size w wr := hb0.trans (hbr.mono hb0.size)
    by_cases hkl : k < code.length
    · obtain ⟨b, off, _, fd, _, hbl, c0, c1, c2⟩ := code_at H.out k hkl
      obtain rfl := (Value.slice.inj fd).1
      obtain ⟨b', off', _, fd', _, hbl', c0', c1', c2'⟩ := code_at H'.out k hkl
      obtain rfl := (Value.slice.inj fd').1
      have d0 := (hbw.cell (p := ⟨b, off + k * 3, none⟩) hbl).trans c0
      have d1 := (hbw.cell (p := ⟨b, off + k * 3 + 1, none⟩) hbl).trans c1
      have d2 := (hbw.cell (p := ⟨b, off + k * 3 + 2, none⟩) hbl).trans c2
      have e0 := (hbw.cell (p := ⟨b', off' + k * 3, none⟩) hbl').trans c0'
      have e1 := (hbw.cell (p := ⟨b', off' + k * 3 + 1, none⟩) hbl').trans c1'
      have e2 := (hbw.cell (p := ⟨b', off' + k * 3 + 2, none⟩) hbl').trans c2'
      clear c0 c1 c2 c0' c1' c2' fd fd' hbw gA gB hb0 p0 p1 p2 q0 q1 q2
      generalize code.getD k default = ii at *
      obtain ⟨o, x, y⟩ := ii
      simp only at d0 d1 d2 e0 e1 e2
      have hkI : (0 : Int) ≤ (k : Int) := by omega
      have hkJ : (k : Int) < (code.length : Int) := by omega
      go_upto_region 6 with fail
      go_quiet (fail)
      go_wp2_with fail
      go_round
      case rel => exact ⟨⟨k + 1, by omega, by go_num⟩, bdrewN hbr _⟩
      case measure => simp [intOf]; omega
    · go_wp2_with fail
      go_ret
      exact ⟨rfl, hbw⟩
theorem strip_funs {a b : List FunD} (h : a.map stripF = b.map stripF) : a.length = b.length ∧ ∀ k, (a.getD k default).c = (b.getD k default).c ∧ (a.getD k default).l = (b.getD k default).l ∧ (a.getD k default).d = (b.getD k default).d ∧ (a.getD k default).code = (b.getD k default).code := by
  have hl : a.length = b.length := by have := congrArg List.length h; simpa using this
  refine ⟨hl, fun k => ?_⟩
  have hk : (a.map stripF)[k]? = (b.map stripF)[k]? := by rw [h]
  rw [List.getElem?_map, List.getElem?_map] at hk
  simp only [List.getD_eq_getElem?_getD]
  cases ha : a[k]? with
  | none =>
    cases hb : b[k]? with
    | none => simp
    | some y => rw [ha, hb] at hk; simp at hk
  | some x =>
    cases hb : b[k]? with
    | none => rw [ha, hb] at hk; simp at hk
    | some y =>
      rw [ha, hb] at hk
      simp only [Option.map_some, Option.some.injEq, stripF, FunS.mk.injEq] at hk
      simpa using hk
set_option maxHeartbeats 2000000 in
set_option maxRecDepth 100000 in
theorem sameP_any (fv tv fv' tv' : Value) (p p' : ProgD) (w : World) (h : IsProg w fv tv p) (h' : IsProg w fv' tv' p') (hs : strip p = strip p') (hfl : p.funs.length ≤ 1000000) (htl : p.texts.length ≤ 1000000) (hcl : ∀ f ∈ p.funs, f.code.length ≤ 1000000) :
    Calls Tryz.prog 13 #[.agg #[fv, tv, .int .i64 p.main], .agg #[fv', tv', .int .i64 p'.main]] w fun e w' => e = .returned (.bool true) ∧ Below w.heap.size w w' := by
  simp only [strip, ProgS.mk.injEq] at hs
  obtain ⟨hs1, hs2, hs3⟩ := hs
  obtain ⟨hfn, hfe⟩ := strip_funs hs1
  have HFe := Lib.hid hfe
  have Hcl := Lib.hid hcl
  have H := Lib.hid h
  have H' := Lib.hid h'
  obtain ⟨⟨⟨fa, fc, e1, hfc, _⟩, _⟩, ⟨ta, tc, e2, htc, _⟩⟩ := h
  obtain ⟨⟨⟨fa', fc', e3, hfc', _⟩, _⟩, ⟨ta', tc', e4, htc', _⟩⟩ := h'
  rw [← hfn] at e3 hfc'
  rw [← hs2] at e4 htc'
  subst e1 e2 e3 e4
  rw [← hs3]
  have Ht' : Hid (IsTexts w (.slice ta' p.texts.length tc') p.texts) := by show IsTexts _ _ _; rw [hs2]; have := H'.out.2; rw [← hs2] at this ⊢; exact this
  have Hf' : Hid (IsFuns w (.slice fa' p.funs.length fc') p'.funs) := H'.out.1
  have Hfn := Lib.hid hfn
  have gA : ((w.alloc (.cells #[.slice fa p.funs.length fc, .slice ta p.texts.length tc, .int .i64 p.main] 25)).alloc (.cells #[.slice fa' p.funs.length fc', .slice ta' p.texts.length tc', .int .i64 p.main] 25)).heap[w.heap.size]? = some (.cells #[.slice fa p.funs.length fc, .slice ta p.texts.length tc, .int .i64 p.main] 25 (0, 0)) := (Below.heap_alloc _ _ _ (by simp)).trans (new_heap w _)
  have gB : ((w.alloc (.cells #[.slice fa p.funs.length fc, .slice ta p.texts.length tc, .int .i64 p.main] 25)).alloc (.cells #[.slice fa' p.funs.length fc', .slice ta' p.texts.length tc', .int .i64 p.main] 25)).heap[w.heap.size + 1]? = some (.cells #[.slice fa' p.funs.length fc', .slice ta' p.texts.length tc', .int .i64 p.main] 25 (0, 0)) := (congrArg _ (by simp)).trans (new_heap (w.alloc (.cells #[.slice fa p.funs.length fc, .slice ta p.texts.length tc, .int .i64 p.main] 25)) _)
  have hb0 : Below w.heap.size w ((w.alloc (.cells #[.slice fa p.funs.length fc, .slice ta p.texts.length tc, .int .i64 p.main] 25)).alloc (.cells #[.slice fa' p.funs.length fc', .slice ta' p.texts.length tc', .int .i64 p.main] 25)) := ((Below.refl _ _).alloc (Nat.le_refl _) _).alloc (by simp) _
  clear hs1 hs2 hs3 hfn hfe hcl H'
  go_enter Tryz.func13, Tryz.ntmps13
  go_wp2_with fail
  generalize ((w.alloc (.cells #[.slice fa p.funs.length fc, .slice ta p.texts.length tc, .int .i64 p.main] 25)).alloc (.cells #[.slice fa' p.funs.length fc', .slice ta' p.texts.length tc', .int .i64 p.main] 25)) = W at *
  go_loopw [5] (fun i wr => (∃ k : Nat, k ≤ p.texts.length ∧ i = .int .i64 k) ∧ Below W.heap.size W wr) (fun i _ => p.texts.length - (intOf i).toNat)
  case atStart => exact ⟨⟨0, Nat.zero_le _, rfl⟩, Below.refl _ _⟩
  case round =>
    rename World => V1
    obtain ⟨⟨k, hk, rfl⟩, hbr⟩ := hrel
    obtain ⟨p0, p1, p2⟩ := ins_cells ((hbr.block _ (heap_lt gA)).trans gA)
    obtain ⟨q0, q1, q2⟩ := ins_cells ((hbr.block _ (heap_lt gB)).trans gB)
    have hbw : Below w.heap.size w V1 := hb0.trans (hbr.mono hb0.size)
    by_cases hkl : k < p.texts.length
    · obtain ⟨b, off, _, fd, _, hbl, c0⟩ := texts_at H.out.2 k hkl
      have e1 := (Value.slice.inj fd).1
      obtain ⟨b', off', _, fd', _, hbl', c0'⟩ := texts_at Ht'.out k hkl
      have e2 := (Value.slice.inj fd').1
      have d0 := (hbw.cell (p := ⟨b, off + k, none⟩) hbl).trans c0
      have d1 := (hbw.cell (p := ⟨b', off' + k, none⟩) hbl').trans c0'
      rw [e1] at p1
      rw [e2] at q1
      clear c0 c0' fd fd' hbw p0 p2 q0 q2 gA gB hb0
      subst e1 e2
      generalize p.texts.getD k default = s at *
      have hkI : (0 : Int) ≤ (k : Int) := by omega
      have hkJ : (k : Int) < (p.texts.length : Int) := by omega
      go_upto_region 6 with fail
      go_quiet (fail)
      go_wp2_with fail
      go_round
      case rel => exact ⟨⟨k + 1, by omega, by go_num⟩, bdrewN hbr _⟩
      case measure => simp [intOf]; omega
    · clear p2 q2
      go_wp2_with fail
      go_loopw [6] (fun i wr => (∃ k : Nat, k ≤ p.funs.length ∧ i = .int .i64 k) ∧ Below W.heap.size W wr) (fun i _ => p.funs.length - (intOf i).toNat)
      case atStart => exact ⟨⟨0, Nat.zero_le _, rfl⟩, hbr⟩
      case round =>
        rename World => V2
        clear p0 p1 q0 q1 hbr
        obtain ⟨⟨k, hk, rfl⟩, hbr⟩ := hrel
        obtain ⟨p0, p1, p2⟩ := ins_cells ((hbr.block _ (heap_lt gA)).trans gA)
        obtain ⟨q0, q1, q2⟩ := ins_cells ((hbr.block _ (heap_lt gB)).trans gB)
        have hbw : Below w.heap.size w V2 := hb0.trans (hbr.mono hb0.size)
        by_cases hkl : k < p.funs.length
        · obtain ⟨b, off, _, fd, _, hbl, c0, c1, c2, c3⟩ := IsFuns.at' H.out.1 k hkl
          have e1 := (Value.slice.inj fd).1
          have hkl' : k < p'.funs.length := by rw [← Hfn.out]; exact hkl
          obtain ⟨b', off', _, fd', _, hbl', c0', c1', c2', c3'⟩ := IsFuns.at' Hf'.out k hkl'
          have e2 := (Value.slice.inj fd').1
          obtain ⟨n1, n2, n3, n4⟩ := HFe.out k
          have hcode : IsCode V2 _ _ := IsRow.below (H.out.1.2 _ (getD_mem default p.funs k hkl)) hbw
          have hcode' : IsCode V2 _ _ := IsRow.below (Hf'.out.2 _ (getD_mem default p'.funs k hkl')) hbw
          have hcl := Hcl.out _ (getD_mem default p.funs k hkl)
          have d0 := (hbw.cell (p := ⟨b, off + k * 4, none⟩) hbl).trans c0
          have d1 := (hbw.cell (p := ⟨b, off + k * 4 + 1, none⟩) hbl).trans c1
          have d2 := (hbw.cell (p := ⟨b, off + k * 4 + 2, none⟩) hbl).trans c2
          have d3 := (hbw.cell (p := ⟨b, off + k * 4 + 3, none⟩) hbl).trans c3
          have g0 := (hbw.cell (p := ⟨b', off' + k * 4, none⟩) hbl').trans c0'
          have g1 := (hbw.cell (p := ⟨b', off' + k * 4 + 1, none⟩) hbl').trans c1'
          have g2 := (hbw.cell (p := ⟨b', off' + k * 4 + 2, none⟩) hbl').trans c2'
          have g3 := (hbw.cell (p := ⟨b', off' + k * 4 + 3, none⟩) hbl').trans c3'
          rw [e1] at p0
          rw [e2] at q0
          have hV1 : b < V2.heap.size := by have := hbw.size; omega
          have hV2 : b' < V2.heap.size := by have := hbw.size; omega
          clear c0 c1 c2 c3 c0' c1' c2' c3' fd fd' hbw p1 p2 q1 q2 hb0 hbl hbl' hkl'
          subst e1 e2
          generalize p.funs.getD k default = f at *
          generalize p'.funs.getD k default = f' at *
          obtain ⟨c, l, d, v, code⟩ := f
          obtain ⟨c', l', d', v', code'⟩ := f'
          simp only at n1 n2 n3 n4 d0 d1 d2 d3 g0 g1 g2 g3 hcode hcode' hcl
          subst n1 n2 n3 n4
          have HC : Hid (∀ u, Below V2.heap.size V2 u → Calls Tryz.prog 46 #[.agg #[.int .i64 c, .int .i64 l, .int .i64 d, v], .agg #[.int .i64 c, .int .i64 l, .int .i64 d, v']] u fun e w' => e = .returned (.bool true) ∧ Below u.heap.size u w') := fun u hu => sameFun_any c l d v v' code u (IsRow.below hcode hu) (IsRow.below hcode' hu) hcl
          have hVW : w.heap.size + 1 < V2.heap.size := by have := hbr.size; have := heap_lt gB; omega
          have hVW0 : w.heap.size < V2.heap.size := by omega
          clear hcode hcode' gA gB
          have hkI : (0 : Int) ≤ (k : Int) := by omega
          have hkJ : (k : Int) < (p.funs.length : Int) := by omega
          go_upto_region 11 with fail
          go_region_held3 (fun w' => w'.cell? ⟨w.heap.size, 0, none⟩ = some (.slice (some ⟨b, off, none⟩) p.funs.length fc) ∧ w'.cell? ⟨w.heap.size + 1, 0, none⟩ = some (.slice (some ⟨b', off', none⟩) p.funs.length fc') ∧ w'.cell? ⟨b, off + k * 4, none⟩ = some (.int .i64 c) ∧ w'.cell? ⟨b, off + k * 4 + 1, none⟩ = some (.int .i64 l) ∧ w'.cell? ⟨b, off + k * 4 + 2, none⟩ = some (.int .i64 d) ∧ w'.cell? ⟨b, off + k * 4 + 3, none⟩ = some v ∧ w'.cell? ⟨b', off' + k * 4, none⟩ = some (.int .i64 c) ∧ w'.cell? ⟨b', off' + k * 4 + 1, none⟩ = some (.int .i64 l) ∧ w'.cell? ⟨b', off' + k * 4 + 2, none⟩ = some (.int .i64 d) ∧ w'.cell? ⟨b', off' + k * 4 + 3, none⟩ = some v')
            (first | exact P2 | exact ⟨p0, q0, d0, d1, d2, d3, g0, g1, g2, g3⟩)
            (first
              | (go_at_call 46; refine (HC.out _ (by exact (Below.refl _ _).drew)).mono ?_; rintro e w2 ⟨rfl, hb2'⟩; have hb2 := (Below.refl V2.heap.size V2).drew.trans hb2'; have P2 := And.intro ((hb2.cell (p := ⟨w.heap.size, 0, none⟩) hVW0).trans p0) (And.intro ((hb2.cell (p := ⟨w.heap.size + 1, 0, none⟩) hVW).trans q0) (And.intro ((hb2.cell (p := ⟨b, off + k * 4, none⟩) hV1).trans d0) (And.intro ((hb2.cell (p := ⟨b, off + k * 4 + 1, none⟩) hV1).trans d1) (And.intro ((hb2.cell (p := ⟨b, off + k * 4 + 2, none⟩) hV1).trans d2) (And.intro ((hb2.cell (p := ⟨b, off + k * 4 + 3, none⟩) hV1).trans d3) (And.intro ((hb2.cell (p := ⟨b', off' + k * 4, none⟩) hV2).trans g0) (And.intro ((hb2.cell (p := ⟨b', off' + k * 4 + 1, none⟩) hV2).trans g1) (And.intro ((hb2.cell (p := ⟨b', off' + k * 4 + 2, none⟩) hV2).trans g2) ((hb2.cell (p := ⟨b', off' + k * 4 + 3, none⟩) hV2).trans g3)))))))))))
          go_wp2_with fail
          go_round
          case rel => exact ⟨⟨k + 1, by omega, by go_num⟩, hbr.trans (hb2.mono hbr.size)⟩
          case measure => simp [intOf]; omega
        · go_wp2_with fail
          go_ret
          exact ⟨rfl, hbw⟩

end Go.Proofs.YtidffjlpldalpaaGreatDoor
