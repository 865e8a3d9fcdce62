/- Text of the program, at a valid program without texts. -/
import Derived.Test.YtidffjlpldalpaaGreatDoorT9
set_option linter.unusedVariables false
set_option linter.unusedSimpArgs false
namespace Go.Proofs.YtidffjlpldalpaaGreatDoor
open Go Go.RowKit

set_option maxHeartbeats 4000000 in
set_option maxRecDepth 100000 in
theorem text_any (N : Int → Prop) (fv tv : Value) (p : ProgD) (w : World) (h : IsProg w fv tv p) (hfl : p.funs.length ≤ 1000000) (ht0 : p.texts.length = 0) (H0' : validB p = true) (hN : NumsOk N p) (hI : ItoaAll N w) (hlen : (textU p).length ≤ 1000000) :
    Calls Tryz.prog 7 #[.agg #[fv, tv, .int .i64 p.main]] w (TextOk p w) := by
  have Hp := Lib.hid h
  have hs0 : Below w.heap.size w (w.alloc (.cells #[fv, tv, .int .i64 p.main] 25)) := (Below.refl _ _).alloc (Nat.le_refl _) _
  have HQ : ∀ s ∈ p.texts, QuotedOk s := fun s hs => by rw [List.length_eq_zero_iff.1 ht0] at hs; cases hs
  have HV := Lib.hid (valid_any fv tv p (w.alloc (.cells #[fv, tv, .int .i64 p.main] 25)) (Hp.out.below hs0) hfl (by omega) HQ)
  obtain ⟨⟨⟨fa, fc, rfl, hfc, _⟩, _⟩, ⟨ta, tc, rfl, htc, _⟩⟩ := h
  clear HQ
  have HT0 := Lib.hid ht0
  clear ht0
  have H0 := Lib.hid H0'
  clear H0'
  have HN := Lib.hid hN
  have HI := Lib.hid hI
  clear hN hI
  have hs1 : (w.alloc (.cells #[.slice fa p.funs.length fc, .slice ta p.texts.length tc, .int .i64 p.main] 25)).heap.size = w.heap.size + 1 := by simp
  have g0 : ∀ o v, (#[Value.slice fa p.funs.length fc, .slice ta p.texts.length tc, .int .i64 p.main] : Array Value)[o]? = some v → (w.alloc (.cells #[.slice fa p.funs.length fc, .slice ta p.texts.length tc, .int .i64 p.main] 25)).cell? ⟨w.heap.size, o, none⟩ = some v := fun o v hv => by rw [cell_new]; exact hv
  go_enter Tryz.func7, Tryz.ntmps7
  go_wp2_with fail
  refine HV.out.mono ?_
  rintro e w1 ⟨rfl, hb1⟩
  rw [H0.out]
  have hb01 : Below w.heap.size w w1 := hs0.trans (hb1.mono (by omega))
  have hz1 : w.heap.size + 1 ≤ w1.heap.size := by have := hb1.size; omega
  have g1 : ∀ o v, (#[Value.slice fa p.funs.length fc, .slice ta p.texts.length tc, .int .i64 p.main] : Array Value)[o]? = some v → w1.cell? ⟨w.heap.size, o, none⟩ = some v := fun o v hv => (hb1.cell (p := ⟨w.heap.size, o, none⟩) (by simp)).trans (g0 o v hv)
  have g2 : ∀ (wx : World) o v, Below (w.heap.size + 1) w1 wx → (#[Value.slice fa p.funs.length fc, .slice ta p.texts.length tc, .int .i64 p.main] : Array Value)[o]? = some v → wx.cell? ⟨w.heap.size, o, none⟩ = some v := fun wx o v hb hv => (hb.cell (p := ⟨w.heap.size, o, none⟩) (Nat.lt_succ_self _)).trans (g1 o v hv)
  have G2 := Lib.hid g2
  clear hs0 hs1 hb1 HV g0 g1 g2
  generalize w.alloc (.cells #[.slice fa p.funs.length fc, .slice ta p.texts.length tc, .int .i64 p.main] 25) = W0 at *
  obtain ⟨v1, v2, v3, v4, v5, v6, v7⟩ := valid_parts p H0.out
  have HV4 := Lib.hid v4
  have HV5 := Lib.hid v5
  clear v4 v5
  have HB1 : Hid (Lib.IsBuilder 52 5 (w.heap.size + 1) w1.heap.size [] (w1.alloc (.cells #[.pointer none, .slice none 0 0] 52))) := bld_fresh w1 _ hz1
  have hbB : Below (w.heap.size + 1) w1 (w1.alloc (.cells #[.pointer none, .slice none 0 0] 52)) := (Below.refl _ _).alloc hz1 _
  have q2 : (w1.alloc (.cells #[.pointer none, .slice none 0 0] 52)).cell? ⟨w.heap.size, 2, none⟩ = some (.int .i64 p.main) := G2.out _ 2 _ hbB rfl
  have hzB : (w1.alloc (.cells #[.pointer none, .slice none 0 0] 52)).heap.size = w1.heap.size + 1 := by simp
  go_upto_region 4 with fail
  generalize w1.alloc (.cells #[.pointer none, .slice none 0 0] 52) = WB at *
  have hbx : Below w.heap.size w (WB.alloc (.cells #[.int .i64 p.main] 3)) := hb01.trans ((hbB.mono (by omega)).alloc (by omega) _)
  have hby : Below (w.heap.size + 1) w1 (WB.alloc (.cells #[.int .i64 p.main] 3)) := hbB.alloc (by omega) _
  obtain ⟨S, hS⟩ : ∃ S, lineS ⟨#[109, 97, 105, 110]⟩ [p.main] = S := ⟨_, rfl⟩
  have hIm := HI.out.below hbx [p.main] (fun x hx => by obtain rfl : x = p.main := by simpa using hx
                                                        exact HN.out.1)
  have hLn := line_any ⟨#[109, 97, 105, 110]⟩ [p.main] _ _ (by simp) (by decide) hIm.2 hIm.1 (isRow_alloc' WB (w1.heap.size + 1) 1 (ints [p.main]) 3 hzB)
  have hSz := lineS_small ⟨#[109, 97, 105, 110]⟩ [p.main] hIm.2 (by simp) (by decide)
  rw [hS] at hLn hSz
  have HLn := Lib.hid hLn
  have HB2 := Lib.hid (IsBuilder.below HB1.out ((Below.refl _ _).alloc (Nat.le_refl _) (.cells #[.int .i64 p.main] 3)))
  have hzC : (WB.alloc (.cells #[.int .i64 p.main] 3)).heap.size = w1.heap.size + 2 := by simp; omega
  clear hLn hIm HB1
  go_wp2_with fail
  refine HLn.out.mono ?_
  rintro e w3 ⟨rfl, hb3⟩
  have hz3 : w1.heap.size + 2 ≤ w3.heap.size := by have := hb3.size; omega
  have hby3 : Below (w.heap.size + 1) w1 w3 := hby.trans (hb3.mono (by omega))
  have HB3 := Lib.hid (IsBuilder.below HB2.out hb3)
  clear HLn HB2 hb3 hby hbx hzC
  generalize WB.alloc (.cells #[.int .i64 p.main] 3) = WBx at *
  go_wp2_with fail
  refine (bld_WriteString (w.heap.size + 1) w1.heap.size [] S w3 HB3.out (by simp; omega) (by omega)).mono ?_
  rintro e w4 ⟨rfl, hbd4, hb4, hO4⟩
  have HB4 : Hid (Lib.BuilderAt 52 5 (w.heap.size + 1) w1.heap.size (.pointer (some ⟨w1.heap.size, 0, none⟩)) (Lib.byteCells S.data.toList) w4) := hbd4
  have hby4 : Below (w.heap.size + 1) w1 w4 := hby3.trans hb4
  have q1 : w4.cell? ⟨w.heap.size, 1, none⟩ = some (.slice ta p.texts.length tc) := G2.out _ 1 _ hby4 rfl
  have Hpre : Hid (S.data.toList ++ (p.funs.drop 0).flatMap funU = textU p) := by show _ = _; rw [← hS]; rfl
  have hz4 : w1.heap.size + 2 ≤ w4.heap.size := by have := hb4.size; omega
  clear hbd4 hb4 hO4 HB3 q2 hby3
  go_wp2_with fail
  go_loop [26] (fun i => i = .int .i64 0) (fun _ => 0)
  case atStart => rfl
  case round =>
    subst hrel
    have q0 : w4.cell? ⟨w.heap.size, 0, none⟩ = some (.slice fa p.funs.length fc) := G2.out _ 0 _ hby4 rfl
    have hzt : p.texts.length = 0 := HT0.out
    go_wp2_with fail
    clear hzt
    refine (words_any _).mono ?_
    rintro e w5 ⟨rfl, hb5⟩
    have hby5 : Below (w.heap.size + 1) w1 w5 := hby4.trans (hb5.mono (by omega))
    have HB5 := Lib.hid (BuilderAt.below HB4.out hb5)
    have hz5 : w1.heap.size + 2 ≤ w5.heap.size := by have := hb5.size; omega
    have hby6 : Below (w.heap.size + 1) w1 (w5.alloc (.cells wordsC 61)) := hby5.alloc (by omega) _
    have HB6 := Lib.hid (BuilderAt.below HB5.out ((Below.refl _ _).alloc (Nat.le_refl _) (.cells wordsC 61)))
    have HW6 : Hid ((w5.alloc (.cells wordsC 61)).heap[w5.heap.size]? = some (.cells wordsC 61 (0, 0))) := new_heap w5 _
    have q6 : (w5.alloc (.cells wordsC 61)).cell? ⟨w.heap.size, 0, none⟩ = some (.slice fa p.funs.length fc) := G2.out _ 0 _ hby6 rfl
    clear HB5 HB4 q0 q1
    go_wp2_with (refine wpList_store_new rfl 61 _ _ rfl w5 _ wordsC rfl rfl words_info rfl words_one ?_)
    generalize w5.alloc (.cells wordsC 61) = w6 at *
    go_loopw [44] (fun i wr => (∃ (k : Nat) (pre : List UInt8), k ≤ p.funs.length ∧ i = .int .i64 k ∧ Hid (Lib.BuilderAt 52 5 (w.heap.size + 1) w1.heap.size (.pointer (some ⟨w1.heap.size, 0, none⟩)) (Lib.byteCells pre) wr) ∧ Hid (pre ++ (p.funs.drop k).flatMap funU = textU p) ∧ Hid (wr.heap[w5.heap.size]? = some (.cells wordsC 61 (0, 0)))) ∧ Below (w.heap.size + 1) w1 wr) (fun i _ => p.funs.length - (intOf i).toNat)
    case atStart => exact ⟨⟨0, _, Nat.zero_le _, rfl, HB6, Hpre, HW6⟩, hby6⟩
    case round =>
      rename World => V2
      obtain ⟨⟨k, pre, hk, rfl, HB, Hpre, HW⟩, hbr⟩ := hrel
      have hbw : Below w.heap.size w V2 := hb01.trans (hbr.mono (by omega))
      have hwz : w.heap.size + 1 ≤ V2.heap.size := by have := hbr.size; omega
      by_cases hkl : k < p.funs.length
      · obtain ⟨b, off, fc', fd, _, hbl, c0, c1, c2, c3⟩ := Hp.out.1.at' k hkl
        obtain rfl := (Value.slice.inj fd).1
        have d0 := (hbw.cell (p := ⟨b, off + k * 4, none⟩) hbl).trans c0
        have d1 := (hbw.cell (p := ⟨b, off + k * 4 + 1, none⟩) hbl).trans c1
        have d2 := (hbw.cell (p := ⟨b, off + k * 4 + 2, none⟩) hbl).trans c2
        have d3 := (hbw.cell (p := ⟨b, off + k * 4 + 3, none⟩) hbl).trans c3
        have hcode := Hp.out.1.2 _ (getD_mem default p.funs k hkl)
        have hhead := HV4.out _ (getD_mem default p.funs k hkl)
        have hrights := HV5.out _ (getD_mem default p.funs k hkl)
        have hnums := HN.out.2 _ (getD_mem default p.funs k hkl)
        clear c0 c1 c2 c3 fd
        have Hst := Lib.hid (dropU default p.funs funU k hkl)
        generalize p.funs.getD k default = f at *
        obtain ⟨c, l, d, v, code⟩ := f
        have Hcode : Hid (IsCode w v code) := hcode
        obtain ⟨ca, cc, hv, hcc, _⟩ := hcode
        simp only at hv d0 d1 d2 d3 hcc hnums
        subst hv
        simp only [headB, inB, Bool.and_eq_true, decide_eq_true_eq] at hhead
        obtain ⟨⟨hh0, hh1⟩, ⟨hh2, hh3⟩, ⟨hh4, hh5⟩, ⟨hh6, hh7⟩⟩ := hhead
        have hcl : code.length ≤ 16384 := by omega
        have Hfit : Hid (∀ j, j < code.length → Fit (code.getD j default).op ∧ Fit (code.getD j default).a ∧ Fit (code.getD j default).b ∧ knownB (code.getD j default).op = true) := fun j hj =>
          right_fit p.texts.length p.funs c l code j hj hh0 hh1 hh3 (by omega) (by omega) (by omega) HV4.out (by
            rw [rightsB_eq, List.all_eq_true] at hrights
            exact hrights j (by simpa using hj))
        obtain ⟨hn0, hn1, hn2, hn3⟩ := hnums
        have HNc := Lib.hid hn3
        clear hrights hn3
        obtain ⟨S2, hS2⟩ : ∃ S, lineS ⟨#[102, 117, 110]⟩ [c, l, d] = S := ⟨_, rfl⟩
        have Hst' : Hid ((p.funs.drop k).flatMap funU = (S2.data.toList ++ code.flatMap insU) ++ (p.funs.drop (k + 1)).flatMap funU) := by
          show _ = _; rw [Hst.out, ← hS2]; rfl
        clear Hst
        have hFB : ((V2.alloc (.cells #[.int .i64 c, .int .i64 l, .int .i64 d, .slice ca code.length cc] 48)).alloc (.cells #[.int .i64 c, .int .i64 l, .int .i64 d] 3)).heap[V2.heap.size]? = some (.cells #[.int .i64 c, .int .i64 l, .int .i64 d, .slice ca code.length cc] 48 (0, 0)) := (Below.heap_alloc _ _ _ (by simp)).trans (new_heap V2 _)
        have hbN : Below V2.heap.size V2 ((V2.alloc (.cells #[.int .i64 c, .int .i64 l, .int .i64 d, .slice ca code.length cc] 48)).alloc (.cells #[.int .i64 c, .int .i64 l, .int .i64 d] 3)) := ((Below.refl _ _).alloc (Nat.le_refl _) _).alloc (by simp) _
        have hzN : ((V2.alloc (.cells #[.int .i64 c, .int .i64 l, .int .i64 d, .slice ca code.length cc] 48)).alloc (.cells #[.int .i64 c, .int .i64 l, .int .i64 d] 3)).heap.size = V2.heap.size + 2 := by simp
        have hbrN : Below (w.heap.size + 1) w1 ((V2.alloc (.cells #[.int .i64 c, .int .i64 l, .int .i64 d, .slice ca code.length cc] 48)).alloc (.cells #[.int .i64 c, .int .i64 l, .int .i64 d] 3)) := hbr.trans (hbN.mono (by omega))
        have hbwN : Below w.heap.size w ((V2.alloc (.cells #[.int .i64 c, .int .i64 l, .int .i64 d, .slice ca code.length cc] 48)).alloc (.cells #[.int .i64 c, .int .i64 l, .int .i64 d] 3)) := hbw.trans (hbN.mono (by omega))
        have hIf := HI.out.below hbwN [c, l, d] (fun x hx => by
          simp only [List.mem_cons, List.not_mem_nil, or_false] at hx
          rcases hx with rfl | rfl | rfl <;> assumption)
        have hLn := line_any ⟨#[102, 117, 110]⟩ [c, l, d] _ _ (by simp) (by decide) hIf.2 hIf.1 (isRow_alloc' (V2.alloc (.cells #[.int .i64 c, .int .i64 l, .int .i64 d, .slice ca code.length cc] 48)) (V2.heap.size + 1) 3 (ints [c, l, d]) 3 (by simp))
        have hSz2 := lineS_small ⟨#[102, 117, 110]⟩ [c, l, d] hIf.2 (by simp) (by decide)
        rw [hS2] at hLn hSz2
        have HLn := Lib.hid hLn
        have HBN := Lib.hid (BuilderAt.below HB.out hbN)
        have HWN : Hid (((V2.alloc (.cells #[.int .i64 c, .int .i64 l, .int .i64 d, .slice ca code.length cc] 48)).alloc (.cells #[.int .i64 c, .int .i64 l, .int .i64 d] 3)).heap[w5.heap.size]? = some (.cells wordsC 61 (0, 0))) := (hbN.block _ (heap_lt HW.out)).trans HW.out
        have hL := lenU_of Hpre.out
        rw [Hst'.out] at hL
        simp only [List.length_append, Array.length_toList] at hL
        clear hLn hIf HB HW
        go_wp2_with fail
        generalize ((V2.alloc (.cells #[.int .i64 c, .int .i64 l, .int .i64 d, .slice ca code.length cc] 48)).alloc (.cells #[.int .i64 c, .int .i64 l, .int .i64 d] 3)) = WN at *
        refine HLn.out.mono ?_
        rintro e w7 ⟨rfl, hb7⟩
        have hFB7 : w7.heap[V2.heap.size]? = some (.cells #[.int .i64 c, .int .i64 l, .int .i64 d, .slice ca code.length cc] 48 (0, 0)) := (hb7.block _ (heap_lt hFB)).trans hFB
        have HW7 : Hid (w7.heap[w5.heap.size]? = some (.cells wordsC 61 (0, 0))) := (hb7.block _ (heap_lt HWN.out)).trans HWN.out
        have HB7 := Lib.hid (BuilderAt.below HBN.out hb7)
        have hbr7 : Below (w.heap.size + 1) w1 w7 := hbrN.trans (hb7.mono (by omega))
        have hz7 : w.heap.size + 1 ≤ w7.heap.size := by have := hbr7.size; omega
        clear HLn HBN HWN hFB hbN hzN hbrN hbwN d0 d1 d2 d3 hb7
        go_wp2_with fail
        refine (bld_WriteString (w.heap.size + 1) w1.heap.size (Lib.byteCells pre) S2 w7 (.inr HB7.out) (by rw [cellsLen]; have e : S2.data.size = S2.size := rfl; omega) hz7).mono ?_
        rintro e w8 ⟨rfl, hbd8, hb8, hO8⟩
        have HB8 : Hid (Lib.BuilderAt 52 5 (w.heap.size + 1) w1.heap.size (.pointer (some ⟨w1.heap.size, 0, none⟩)) (Lib.byteCells (pre ++ S2.data.toList)) w8) := BuilderAt.step hbd8
        have hbr8 : Below (w.heap.size + 1) w1 w8 := hbr7.trans hb8
        have HW8 : Hid (w8.heap[w5.heap.size]? = some (.cells wordsC 61 (0, 0))) := hO8 _ _ _ _ HW7.out (by decide) (by decide)
        have hFB8 := hO8 _ _ _ _ hFB7 (by decide) (by decide)
        have f3 : w8.cell? ⟨V2.heap.size, 3, none⟩ = some (.slice ca code.length cc) := by simp [World.cell?, hFB8]
        have Hpre8 : Hid ((pre ++ S2.data.toList) ++ ((code.drop 0).flatMap insU ++ (p.funs.drop (k + 1)).flatMap funU) = textU p) := by
          show _ = _
          rw [← Hpre.out, Hst'.out]; simp only [List.append_assoc]; rfl
        clear hbd8 hb8 hO8 HB7 HW7 hFB7 hFB8 Hpre hbr hbw hbr7 hL
        go_wp2_with fail
        go_loopw [60] (fun i wr => (∃ (j : Nat) (pre : List UInt8), j ≤ code.length ∧ i = .int .i64 j ∧ Hid (Lib.BuilderAt 52 5 (w.heap.size + 1) w1.heap.size (.pointer (some ⟨w1.heap.size, 0, none⟩)) (Lib.byteCells pre) wr) ∧ Hid (pre ++ ((code.drop j).flatMap insU ++ (p.funs.drop (k + 1)).flatMap funU) = textU p) ∧ Hid (wr.heap[w5.heap.size]? = some (.cells wordsC 61 (0, 0)))) ∧ Below (w.heap.size + 1) w1 wr) (fun i _ => code.length - (intOf i).toNat)
        case atStart => exact ⟨⟨0, _, Nat.zero_le _, rfl, HB8, Hpre8, HW8⟩, hbr8⟩
        case round =>
          clear f3 HB8 HW8 hbr8
          rename World => V4
          obtain ⟨⟨j, pre4, hj, rfl, HB4, Hpre4, HW4⟩, hbr4⟩ := hrel
          have hbw4 : Below w.heap.size w V4 := hb01.trans (hbr4.mono (by omega))
          have hwz4 : w.heap.size + 1 ≤ V4.heap.size := by have := hbr4.size; omega
          by_cases hjl : j < code.length
          · obtain ⟨b', off', cc', fd', _, hbl', c0, c1, c2⟩ := code_at Hcode.out j hjl
            obtain rfl := (Value.slice.inj fd').1
            have d0 := (hbw4.cell (p := ⟨b', off' + j * 3, none⟩) hbl').trans c0
            have d1 := (hbw4.cell (p := ⟨b', off' + j * 3 + 1, none⟩) hbl').trans c1
            have d2 := (hbw4.cell (p := ⟨b', off' + j * 3 + 2, none⟩) hbl').trans c2
            have hft := Hfit.out j hjl
            have hns := HNc.out _ (getD_mem default code j hjl)
            have Hst4 := Lib.hid (dropU default code insU j hjl)
            clear c0 c1 c2 fd'
            generalize code.getD j default = i at *
            obtain ⟨op, a, b⟩ := i
            obtain ⟨_, _, _, hkn⟩ := hft
            simp only at d0 d1 d2 hkn hns
            have hop0 : 0 ≤ op := by have : 1 ≤ op ∧ op ≤ 16 := by simpa [knownB, inB] using hkn
                                     omega
            obtain ⟨n, rfl⟩ := Int.eq_ofNat_of_zero_le hop0
            obtain ⟨wc0, wc1, wcs, hn17, hm0, hm1⟩ := words_cells n hkn
            obtain ⟨S3, hS3⟩ : ∃ S, wordS (n : Int) = S := ⟨_, rfl⟩
            obtain ⟨m, hm⟩ := Int.eq_ofNat_of_zero_le hm0
            have Hst5 : Hid ((code.drop j).flatMap insU = (lineS S3 ([a, b].take m)).data.toList ++ (code.drop (j + 1)).flatMap insU) := by
              show _ = _; rw [Hst4.out, ← hS3]; simp only [insU, lineU, hm, Int.toNat_natCast]
            rw [hS3] at wc0 wcs
            rw [hm] at wc1 hm1
            have hm2 : m ≤ 2 := by omega
            clear Hst4 hS3 hm hkn hop0 hm0 hm1
            have hNl : ∀ x ∈ [a, b].take m, N x := fun x hx => by
              have := List.mem_of_mem_take hx
              simp only [List.mem_cons, List.not_mem_nil, or_false] at this
              rcases this with rfl | rfl
              · exact hns.1
              · exact hns.2
            have hbI : Below V4.heap.size V4 (V4.alloc (.cells #[.int .i64 n, .int .i64 a, .int .i64 b] 64)) := (Below.refl _ _).alloc (Nat.le_refl _) _
            have e1 : (V4.alloc (.cells #[.int .i64 n, .int .i64 a, .int .i64 b] 64)).cell? ⟨w5.heap.size, n * 2, none⟩ = some (.string S3) := (hbI.cell (p := ⟨w5.heap.size, n * 2, none⟩) (heap_lt HW4.out)).trans (by simp only [World.cell?, HW4.out]; exact wc0)
            have e2 : (V4.alloc (.cells #[.int .i64 n, .int .i64 a, .int .i64 b] 64)).cell? ⟨w5.heap.size, n * 2 + 1, none⟩ = some (.int .i64 m) := (hbI.cell (p := ⟨w5.heap.size, n * 2 + 1, none⟩) (heap_lt HW4.out)).trans (by simp only [World.cell?, HW4.out]; exact wc1)
            have hbD : Below V4.heap.size V4 ((V4.alloc (.cells #[.int .i64 n, .int .i64 a, .int .i64 b] 64)).alloc (.cells #[.string S3, .int .i64 m] 60)) := hbI.alloc (by simp) _
            have hI0 : ((V4.alloc (.cells #[.int .i64 n, .int .i64 a, .int .i64 b] 64)).alloc (.cells #[.string S3, .int .i64 m] 60)).heap[V4.heap.size]? = some (.cells #[.int .i64 n, .int .i64 a, .int .i64 b] 64 (0, 0)) := (Below.heap_alloc _ _ _ (by simp)).trans (new_heap V4 _)
            have hD0 : ((V4.alloc (.cells #[.int .i64 n, .int .i64 a, .int .i64 b] 64)).alloc (.cells #[.string S3, .int .i64 m] 60)).heap[V4.heap.size + 1]? = some (.cells #[.string S3, .int .i64 m] 60 (0, 0)) := (congrArg _ (by simp)).trans (new_heap (V4.alloc (.cells #[.int .i64 n, .int .i64 a, .int .i64 b] 64)) _)
            have hzD : ((V4.alloc (.cells #[.int .i64 n, .int .i64 a, .int .i64 b] 64)).alloc (.cells #[.string S3, .int .i64 m] 60)).heap.size = V4.heap.size + 2 := by simp
            have HBD := Lib.hid (BuilderAt.below HB4.out hbD)
            have HWD : Hid (((V4.alloc (.cells #[.int .i64 n, .int .i64 a, .int .i64 b] 64)).alloc (.cells #[.string S3, .int .i64 m] 60)).heap[w5.heap.size]? = some (.cells wordsC 61 (0, 0))) := (hbD.block _ (heap_lt HW4.out)).trans HW4.out
            have hbrD : Below (w.heap.size + 1) w1 ((V4.alloc (.cells #[.int .i64 n, .int .i64 a, .int .i64 b] 64)).alloc (.cells #[.string S3, .int .i64 m] 60)) := hbr4.trans (hbD.mono (by omega))
            have hbwD : Below w.heap.size w ((V4.alloc (.cells #[.int .i64 n, .int .i64 a, .int .i64 b] 64)).alloc (.cells #[.string S3, .int .i64 m] 60)) := hbw4.trans (hbD.mono (by omega))
            have hSh := (HI.out _ hNl).2
            have hS9 := lineS_small S3 ([a, b].take m) hSh (by simp; omega) wcs
            have hL := lenU_of Hpre4.out
            rw [Hst5.out] at hL
            simp only [List.length_append, Array.length_toList] at hL
            have hL' : pre4.length ≤ 1000000 := by omega
            clear hL
            go_upto_region 20 with fail
            generalize ((V4.alloc (.cells #[.int .i64 n, .int .i64 a, .int .i64 b] 64)).alloc (.cells #[.string S3, .int .i64 m] 60)) = W9 at *
            clear d0 d1 d2 e1 e2 hbI hbD
            have Hrow : Hid (IsRow (W9.drew.alloc (.cells #[.int .i64 a, .int .i64 b] 3)) (.slice (some ⟨V4.heap.size + 1 + 1, 0, none⟩) m 2) ([a, b].take m).length (ints ([a, b].take m))) := isRow_take2 W9.drew (V4.heap.size + 1 + 1) m a b 3 hm2 hzD
            have hbA : Below W9.heap.size W9 (W9.drew.alloc (.cells #[.int .i64 a, .int .i64 b] 3)) := (Below.refl _ W9).drew.alloc (by exact Nat.le_refl _) _
            have hbwA : Below w.heap.size w (W9.drew.alloc (.cells #[.int .i64 a, .int .i64 b] 3)) := hbwD.trans (hbA.mono (by omega))
            have hbrA : Below (w.heap.size + 1) w1 (W9.drew.alloc (.cells #[.int .i64 a, .int .i64 b] 3)) := hbrD.trans (hbA.mono (by omega))
            have hIA : (W9.drew.alloc (.cells #[.int .i64 a, .int .i64 b] 3)).heap[V4.heap.size]? = _ := (hbA.block _ (heap_lt hI0)).trans hI0
            have hDA : (W9.drew.alloc (.cells #[.int .i64 a, .int .i64 b] 3)).heap[V4.heap.size + 1]? = _ := (hbA.block _ (heap_lt hD0)).trans hD0
            have HBA := Lib.hid (BuilderAt.below HBD.out hbA)
            have HWA : Hid ((W9.drew.alloc (.cells #[.int .i64 a, .int .i64 b] 3)).heap[w5.heap.size]? = some (.cells wordsC 61 (0, 0))) := (hbA.block _ (heap_lt HWD.out)).trans HWD.out
            have HLA := Lib.hid (line_any S3 ([a, b].take m) _ _ (by simp; omega) (by omega) hSh ((HI.out.below hbwA) _ hNl).1 Hrow.out)
            have hzA : w.heap.size + 1 ≤ (W9.drew.alloc (.cells #[.int .i64 a, .int .i64 b] 3)).heap.size := by have := hbrA.size; omega
            have hmi0 : (0 : Int) ≤ (m : Int) := by omega
            have hmi1 : (m : Int) ≤ 2 := by omega
            have k0 := text_cells hD0 hI0
            have k1 := text_cells hDA hIA
            go_region_held3 (fun w' => w'.cell? ⟨V4.heap.size + 1, 0, none⟩ = some (.string S3) ∧ w'.cell? ⟨V4.heap.size, 1, none⟩ = some (.int .i64 a) ∧ w'.cell? ⟨V4.heap.size, 2, none⟩ = some (.int .i64 b) ∧ w'.cell? ⟨V4.heap.size + 1, 1, none⟩ = some (.int .i64 m)) (first | exact k3 | exact k2 | exact k1 | exact k0)
              (first
                | (have guard9 := hx1; clear guard9; go_at_call 21; refine (bld_WriteString (w.heap.size + 1) w1.heap.size (Lib.byteCells pre4) (lineS S3 ([a, b].take m)) _ (.inr (by exact HBx.out)) (by rw [cellsLen]; omega) (by exact hzx)).mono ?_; rintro e x2 ⟨rfl, hbd9, hb9, hO9⟩; have k3 := text_cells (hO9 _ _ _ _ hDx (by decide) (by decide)) (hO9 _ _ _ _ hIx (by decide) (by decide)))
                | (go_at_call 22; refine HLA.out.mono ?_; rintro e x1 ⟨rfl, hx1⟩; have hDx := (hx1.block _ (heap_lt hDA)).trans hDA; have hIx := (hx1.block _ (heap_lt hIA)).trans hIA; have k2 := text_cells hDx hIx; have HBx := Lib.hid (BuilderAt.below HBA.out hx1); have HWx := (hx1.block _ (heap_lt HWA.out)).trans HWA.out; have hzx : w.heap.size + 1 ≤ x1.heap.size := Nat.le_trans hzA hx1.size))
            have HB9 : Hid (Lib.BuilderAt 52 5 (w.heap.size + 1) w1.heap.size (.pointer (some ⟨w1.heap.size, 0, none⟩)) (Lib.byteCells (pre4 ++ (lineS S3 ([a, b].take m)).data.toList)) x2) := BuilderAt.step hbd9
            have hbr9 : Below (w.heap.size + 1) w1 x2 := (hbrA.trans (hx1.mono (by omega))).trans hb9
            have HW9 : Hid (x2.heap[w5.heap.size]? = some (.cells wordsC 61 (0, 0))) := hO9 _ _ _ _ HWx (by decide) (by decide)
            have Hpre9 : Hid ((pre4 ++ (lineS S3 ([a, b].take m)).data.toList) ++ ((code.drop (j + 1)).flatMap insU ++ (p.funs.drop (k + 1)).flatMap funU) = textU p) := by
              show _ = _
              rw [← Hpre4.out, Hst5.out]; simp only [List.append_assoc]
            clear hbd9 hb9 hO9 HWx hDx hIx k0 k1 k2 k3 hx1 HBx hzx hzA hDA hIA hD0 hI0 HLA hbA hbwA hbrA
            go_wp2_with fail
            go_round
            case rel => exact ⟨⟨j + 1, _, by omega, by go_num, HB9, Hpre9, HW9⟩, hbr9⟩
            case measure => simp [intOf]; omega
          · have Hpre7 : Hid (pre4 ++ (p.funs.drop (k + 1)).flatMap funU = textU p) := by
              show _ = _
              have := Hpre4.out
              rw [List.drop_of_length_le (by omega)] at this
              exact this
            go_wp2_with fail
            go_round
            case rel => exact ⟨⟨k + 1, _, by omega, by go_num, HB4, Hpre7, HW4⟩, hbr4⟩
            case measure => simp [intOf]; omega
      · obtain rfl : pre = textU p := by
          have := Hpre.out
          rw [List.drop_of_length_le (by omega)] at this
          simpa using this
        go_wp2_with fail
        refine (Tryz.Builder_Len _ _ _ _ (.inr HB.out)).mono ?_
        rintro e w7 ⟨rfl, rfl⟩
        rw [cellsLen]
        have hlq := hlen
        generalize (textU p).length = q at hlq ⊢
        have hlq' : q ≤ 1048576 := by omega
        go_wp2_with fail
        refine (Tryz.Builder_String_any _ _ (textU p) _ (.inr HB.out) hwz).mono ?_
        rintro e w7 ⟨rfl, hb7⟩
        have hbz : Below w.heap.size w w7 := hbw.trans (hb7.mono (by omega))
        go_wp2_with fail
        go_ret2
        exact ⟨rfl, hbz⟩
end Go.Proofs.YtidffjlpldalpaaGreatDoor
