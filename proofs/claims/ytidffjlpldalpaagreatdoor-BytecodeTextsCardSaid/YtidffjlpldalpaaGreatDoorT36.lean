/- The reference's Text, at every valid program. -/
import Derived.Test.YtidffjlpldalpaaGreatDoorT30
import Derived.Test.YtidffjlpldalpaaGreatDoorT35
import Derived.Test.YtidffjlpldalpaaGreatDoorT16
set_option linter.unusedVariables false
set_option linter.unusedSimpArgs false
namespace Go.Proofs.YtidffjlpldalpaaGreatDoor
open Go Go.RowKit

theorem numS_data (n : Int) : (numS n).data.toList = Lib.itoa n := by unfold numS; simp
theorem numS_size {n : Int} (h : Num52 n) : (numS n).size ≤ 21 := by
  unfold numS
  have := Lib.itoa_length_le n (by unfold Num52 at h; omega) (by unfold Num52 at h; omega)
  show (Lib.itoa n).toArray.size ≤ 21
  rw [List.size_toArray]; exact this
theorem insU_cases (i : Ins) : insU i = wordU i.op ++ (([i.a, i.b].take (opnds i.op).toNat).flatMap fun n => 32 :: Lib.itoa n) ++ [10] := by
  rw [insU_eq]; rfl
theorem word_small (op : Int) : (wordS op).size ≤ 7 := by
  unfold wordS
  split
  · rename_i h
    rcases op_cases op with rfl | rfl | rfl | rfl | rfl | rfl | rfl | rfl | rfl | rfl | rfl | rfl | rfl | rfl | rfl | rfl | h3
    all_goals first | (exfalso; omega) | decide
  · decide
theorem fun3 {V : World} {R : Nat} {x y z u : Value} (h : V.heap[R]? = some (.cells #[x, y, z, u] 48 (0, 0))) : V.cell? ⟨R, 0, none⟩ = some x ∧ V.cell? ⟨R, 1, none⟩ = some y ∧ V.cell? ⟨R, 2, none⟩ = some z := by
  refine ⟨?_, ?_, ?_⟩ <;> simp only [World.cell?, h] <;> rfl
set_option maxHeartbeats 4000000 in
set_option maxRecDepth 100000 in
theorem rtext_any (fv tv : Value) (p : ProgD) (w : World) (h : IsProg w fv tv p) (H0' : validB p = true) (hlen : (textA p).length ≤ 1000000) :
    Calls Tryz.prog 10 #[.agg #[fv, tv, .int .i64 p.main]] w fun e w' => e = .returned (.string ⟨(textA p).toArray⟩) ∧ Below w.heap.size w w' := by
  have Hp := Lib.hid h
  have hs0 : Below w.heap.size w (w.alloc (.cells #[fv, tv, .int .i64 p.main] 25)) := (Below.refl _ _).alloc (Nat.le_refl _) _
  have HD : Hid (∀ n, Num52 n → ∀ wx, Calls Tryz.prog 35 #[.int .i64 n] wx fun e w' => e = .returned (.string (numS n)) ∧ Below wx.heap.size wx w') := fun n hn wx => rdecimal_any n hn.1 hn.2 wx
  have HN := Lib.hid (nums52 p H0')
  have HT : Hid (∀ s ∈ p.texts, s.size ≤ 16384) := fun s hs => (quotes_of p H0' s hs).2
  obtain ⟨v1, _, v3, _⟩ := valid_parts p H0'
  have HV : Hid (∀ f ∈ p.funs, f.code.length ≤ 16384) := fun f hf => by
    have hh := (valid_parts p H0').2.2.2.1 f hf
    simp only [headB, inB, Bool.and_eq_true, decide_eq_true_eq] at hh
    omega
  obtain ⟨⟨⟨fa, fc, rfl, hfc, _⟩, _⟩, ⟨ta, tc, rfl, htc, _⟩⟩ := h
  clear H0'
  have hP : (w.alloc (.cells #[.slice fa p.funs.length fc, .slice ta p.texts.length tc, .int .i64 p.main] 25)).heap[w.heap.size]? = some (.cells #[.slice fa p.funs.length fc, .slice ta p.texts.length tc, .int .i64 p.main] 25 (0, 0)) := new_heap w _
  have hzw : (w.alloc (.cells #[.slice fa p.funs.length fc, .slice ta p.texts.length tc, .int .i64 p.main] 25)).heap.size = w.heap.size + 1 := by simp
  have q2 : (w.alloc (.cells #[.slice fa p.funs.length fc, .slice ta p.texts.length tc, .int .i64 p.main] 25)).cell? ⟨w.heap.size, 2, none⟩ = some (.int .i64 p.main) := by simp only [World.cell?, hP]; rfl
  go_enter Tryz.func10, Tryz.ntmps10
  go_wp2_with fail
  generalize w.alloc (.cells #[.slice fa p.funs.length fc, .slice ta p.texts.length tc, .int .i64 p.main] 25) = W0 at *
  have hM := HN.out.1
  have hMz := numS_size hM
  refine (HD.out _ hM _).mono ?_
  rintro e w1 ⟨rfl, hb1⟩
  have hb01 : Below w.heap.size w w1 := hs0.trans (hb1.mono hs0.size)
  have hz1 : w.heap.size + 1 ≤ w1.heap.size := by have := hb1.size; omega
  have HP1 : Hid (w1.heap[w.heap.size]? = some (.cells #[.slice fa p.funs.length fc, .slice ta p.texts.length tc, .int .i64 p.main] 25 (0, 0))) := (hb1.block _ (heap_lt hP)).trans hP
  have G2 : Hid (∀ (wx : World) o v, Below (w.heap.size + 1) w1 wx → (#[Value.slice fa p.funs.length fc, .slice ta p.texts.length tc, .int .i64 p.main] : Array Value)[o]? = some v → wx.cell? ⟨w.heap.size, o, none⟩ = some v) := fun wx o v hb hv => (hb.cell (p := ⟨w.heap.size, o, none⟩) (Nat.lt_succ_self _)).trans (by simp only [World.cell?, HP1.out]; exact hv)
  have Hpre0 : Hid ((((⟨#[109, 97, 105, 110, 32]⟩ : ByteArray) ++ numS p.main ++ ⟨#[10]⟩).data.toList) ++ ((p.texts.drop 0).flatMap strU ++ p.funs.flatMap funU) = textA p) := by
    show _ = _
    unfold textA mainU
    rw [lineU_eq, List.drop_zero]
    simp [ByteArray.data_append, numS_data, lineT]
  clear q2 hP hs0 hb1
  go_wp2_with fail
  go_loopw [3, 4] (fun o i wr => ∃ (k : Nat) (S : ByteArray), k ≤ p.texts.length ∧ i = .int .i64 k ∧ o = .string S ∧ Hid (S.data.toList ++ ((p.texts.drop k).flatMap strU ++ p.funs.flatMap funU) = textA p) ∧ Below (w.heap.size + 1) w1 wr) (fun _ i _ => p.texts.length - (intOf i).toNat)
  case atStart => exact ⟨0, _, Nat.zero_le _, rfl, rfl, Hpre0, Below.refl _ _⟩
  case round =>
    clear Hpre0 hMz hM
    rename World => V
    obtain ⟨k, S, hk, rfl, rfl, Hpre, hbr⟩ := hrel
    have hL := lenU_of Hpre.out
    simp only [List.length_append, data_len] at hL
    have hSz : S.size ≤ 1000000 := by omega
    have q1 := G2.out V 1 _ hbr rfl
    by_cases hkl : k < p.texts.length
    · have hbw : Below w.heap.size w V := hb01.trans (hbr.mono (by omega))
      obtain ⟨b, off, tc', fd, _, hbl, c0⟩ := texts_at Hp.out.2 k hkl
      obtain rfl := (Value.slice.inj fd).1
      have d0 := (hbw.cell (p := ⟨b, off + k, none⟩) hbl).trans c0
      have hs := HT.out _ (getD_mem default p.texts k hkl)
      have Hst := Lib.hid (dropU default p.texts strU k hkl)
      clear c0 fd hL
      generalize p.texts.getD k default = s at *
      have HQ := Lib.hid (rquote_any s V (by omega))
      have hqe : (quoteU s).length ≤ 40000 := by have h1 := escU_len s.data.toList; have h2 := data_len s; simp only [quoteU, List.length_cons, List.length_append, List.length_nil]; omega
      have hqs : (⟨(quoteU s).toArray⟩ : ByteArray).size ≤ 40000 := by simpa [ByteArray.size] using hqe
      have hsq : Hid (strU s = [115, 116, 114, 105, 110, 103, 32] ++ ((⟨(quoteU s).toArray⟩ : ByteArray).data.toList ++ [10])) := by show _ = _; unfold strU; simp
      clear hqe
      generalize (⟨(quoteU s).toArray⟩ : ByteArray) = Q at *
      have e7 : (⟨#[115, 116, 114, 105, 110, 103, 32]⟩ : ByteArray).size = 7 := rfl
      have e1 : (⟨#[10]⟩ : ByteArray).size = 1 := rfl
      have Hnext : Hid ((S ++ ⟨#[115, 116, 114, 105, 110, 103, 32]⟩ ++ Q ++ ⟨#[10]⟩).data.toList ++ ((p.texts.drop (k + 1)).flatMap strU ++ p.funs.flatMap funU) = textA p) := by
        show _ = _
        rw [← Hpre.out, Hst.out, hsq.out]; simp [ByteArray.data_append]
      clear Hpre Hst
      go_wp2_with fail
      refine HQ.out.mono ?_
      rintro e w2 ⟨rfl, rfl⟩
      go_wp2_with fail
      go_roundw
      case rel => exact ⟨k + 1, _, by omega, by go_num, rfl, Hnext, hbr⟩
      case measure => simp [intOf]; omega
    · obtain rfl : k = p.texts.length := by omega
      have Hpre2 : Hid (S.data.toList ++ (p.funs.drop 0).flatMap funU = textA p) := by
        show _ = _
        have := Hpre.out
        rw [List.drop_length] at this
        exact this
      have q0 := G2.out V 0 _ hbr rfl
      clear Hpre hL
      go_wp2_with fail
      go_loopw [3, 5] (fun o i wr => ∃ (k : Nat) (S : ByteArray), k ≤ p.funs.length ∧ i = .int .i64 k ∧ o = .string S ∧ Hid (S.data.toList ++ (p.funs.drop k).flatMap funU = textA p) ∧ Below (w.heap.size + 1) w1 wr) (fun _ i _ => p.funs.length - (intOf i).toNat)
      case atStart => exact ⟨0, _, Nat.zero_le _, rfl, rfl, Hpre2, hbr⟩
      case round =>
        clear Hpre2 hSz hbr q1 q0
        rename World => V2
        obtain ⟨k, S, hk, rfl, rfl, Hpre, hbr⟩ := hrel
        have hbw : Below w.heap.size w V2 := hb01.trans (hbr.mono (by omega))
        have hwz : w.heap.size + 1 ≤ V2.heap.size := by have := hbr.size; omega
        have q0 := G2.out V2 0 _ hbr rfl
        by_cases hkl : k < p.funs.length
        · obtain ⟨b, off, fc', fd, _, hbl, c0, c1, c2, c3⟩ := Hp.out.1.at' k hkl
          obtain rfl := (Value.slice.inj fd).1
          have d0 := (hbw.cell (p := ⟨b, off + k * 4, none⟩) hbl).trans c0
          have d1 := (hbw.cell (p := ⟨b, off + k * 4 + 1, none⟩) hbl).trans c1
          have d2 := (hbw.cell (p := ⟨b, off + k * 4 + 2, none⟩) hbl).trans c2
          have d3 := (hbw.cell (p := ⟨b, off + k * 4 + 3, none⟩) hbl).trans c3
          have hcode := Hp.out.1.2 _ (getD_mem default p.funs k hkl)
          have hnums := HN.out.2 _ (getD_mem default p.funs k hkl)
          have hcl := HV.out _ (getD_mem default p.funs k hkl)
          clear c0 c1 c2 c3 fd
          have Hst := Lib.hid (dropU default p.funs funU k hkl)
          generalize p.funs.getD k default = f at *
          obtain ⟨c, l, d, v, code⟩ := f
          have Hcode : Hid (IsCode w v code) := hcode
          obtain ⟨ca, cc, hv, hcc, _⟩ := hcode
          simp only at hv d0 d1 d2 d3 hcc hnums hcl
          subst hv
          obtain ⟨hn0, hn1, hn2, hn3⟩ := hnums
          have HNc := Lib.hid hn3
          have z0 := numS_size hn0
          have z1 := numS_size hn1
          have z2 := numS_size hn2
          have hL := lenU_of Hpre.out
          rw [data_len] at hL
          have hSz : S.size ≤ 1000000 := by omega
          have Hnext : Hid ((S ++ ⟨#[102, 117, 110, 32]⟩ ++ numS c ++ ⟨#[32]⟩ ++ numS l ++ ⟨#[32]⟩ ++ numS d ++ ⟨#[10]⟩).data.toList ++ ((code.drop 0).flatMap insU ++ (p.funs.drop (k + 1)).flatMap funU) = textA p) := by
            show _ = _
            rw [← Hpre.out, Hst.out]
            unfold funU
            rw [lineU_eq]
            simp [ByteArray.data_append, numS_data, lineT]
          clear Hpre Hst hL hn3
          have hI : (V2.alloc (.cells #[.int .i64 c, .int .i64 l, .int .i64 d, .slice ca code.length cc] 48)).heap[V2.heap.size]? = some (.cells #[.int .i64 c, .int .i64 l, .int .i64 d, .slice ca code.length cc] 48 (0, 0)) := new_heap V2 _
          have hBr : Below V2.heap.size V2 (V2.alloc (.cells #[.int .i64 c, .int .i64 l, .int .i64 d, .slice ca code.length cc] 48)) := (Below.refl _ _).alloc (Nat.le_refl _) _
          go_upto_region 10 with fail
          generalize V2.alloc (.cells #[.int .i64 c, .int .i64 l, .int .i64 d, .slice ca code.length cc] 48) = W9 at *
          have hI2 : W9.drew.heap[V2.heap.size]? = some (.cells #[.int .i64 c, .int .i64 l, .int .i64 d, .slice ca code.length cc] 48 (0, 0)) := hI
          have hBr2 : Below V2.heap.size V2 W9.drew := hBr.drew
          have r4 := fun3 hI2
          have y0 : ¬ (9223372036854775807 < S.size + 4) := by omega
          have y1 : ¬ (9223372036854775807 < S.size + 4 + (numS c).size) := by omega
          have y2 : ¬ (9223372036854775807 < S.size + 4 + (numS c).size + 1) := by omega
          have y3 : ¬ (9223372036854775807 < S.size + 4 + (numS c).size + 1 + (numS l).size) := by omega
          have y4 : ¬ (9223372036854775807 < S.size + 4 + (numS c).size + 1 + (numS l).size + 1) := by omega
          have y5 : ¬ (9223372036854775807 < S.size + 4 + (numS c).size + 1 + (numS l).size + 1 + (numS d).size) := by omega
          have y6 : ¬ (9223372036854775807 < S.size + 4 + (numS c).size + 1 + (numS l).size + 1 + (numS d).size + 1) := by omega
          have e4 : (⟨#[102, 117, 110, 32]⟩ : ByteArray).size = 4 := rfl
          have e32 : (⟨#[32]⟩ : ByteArray).size = 1 := rfl
          have e10 : (⟨#[10]⟩ : ByteArray).size = 1 := rfl
          clear d0 d1 d2 d3
          go_region_held3 (fun w' => w'.cell? ⟨V2.heap.size, 0, none⟩ = some (.int .i64 c) ∧ w'.cell? ⟨V2.heap.size, 1, none⟩ = some (.int .i64 l) ∧ w'.cell? ⟨V2.heap.size, 2, none⟩ = some (.int .i64 d)) (first | exact r4)
            ((go_at_call 35; refine (HD.out _ (by assumption) _).mono ?_; rintro e wx ⟨rfl, hbx⟩; have hBr2 := hBr2.trans (hbx.mono hBr2.size); have hI2 := (hbx.block _ (heap_lt hI2)).trans hI2; have r4 := fun3 hI2))
          have hzx : V2.heap.size + 1 ≤ wx.heap.size := by have := heap_lt hI2; omega
          have HI2 := Lib.hid hI2
          have f3 : wx.cell? ⟨V2.heap.size, 3, none⟩ = some (.slice ca code.length cc) := by simp only [World.cell?, hI2]; rfl
          have HBx : Hid (Below (w.heap.size + 1) w1 wx) := hbr.trans (hBr2.mono hwz)
          clear r4 y0 y1 y2 y3 y4 y5 y6 z0 z1 z2 hBr hI hBr2 hbr hbx hI2 e4 e32 e10
          go_wp2_with fail
          go_loopw [3, 7] (fun o i wr => ∃ (j : Nat) (S : ByteArray), j ≤ code.length ∧ i = .int .i64 j ∧ o = .string S ∧ Hid (S.data.toList ++ ((code.drop j).flatMap insU ++ (p.funs.drop (k + 1)).flatMap funU) = textA p) ∧ Below (V2.heap.size + 1) wx wr) (fun _ i _ => code.length - (intOf i).toNat)
          case atStart => exact ⟨0, _, Nat.zero_le _, rfl, rfl, Hnext, Below.refl _ _⟩
          case round =>
            clear Hnext hSz f3
            rename World => V4
            obtain ⟨j, S, hj, rfl, rfl, Hpre, hb4⟩ := hrel
            have hL := lenU_of Hpre.out
            rw [data_len] at hL
            have hSz : S.size ≤ 1000000 := by omega
            have hbr4 : Below (w.heap.size + 1) w1 V4 := HBx.out.trans (hb4.mono (by omega))
            have hbw4 : Below w.heap.size w V4 := hb01.trans (hbr4.mono (by omega))
            have f3 : V4.cell? ⟨V2.heap.size, 3, none⟩ = some (.slice ca code.length cc) := by
              have := (hb4.block V2.heap.size (Nat.lt_succ_self _)).trans HI2.out
              simp only [World.cell?, this]; rfl
            by_cases hjl : j < code.length
            · obtain ⟨b', off', cc', fd', _, hbl', c0, c1, c2⟩ := code_at Hcode.out j hjl
              obtain rfl := (Value.slice.inj fd').1
              have d0 := (hbw4.cell (p := ⟨b', off' + j * 3, none⟩) hbl').trans c0
              have d1 := (hbw4.cell (p := ⟨b', off' + j * 3 + 1, none⟩) hbl').trans c1
              have d2 := (hbw4.cell (p := ⟨b', off' + j * 3 + 2, none⟩) hbl').trans c2
              have hns := HNc.out _ (getD_mem default code j hjl)
              have Hst := Lib.hid (dropU default code insU j hjl)
              clear c0 c1 c2 fd'
              generalize code.getD j default = i at *
              obtain ⟨op, a, b⟩ := i
              simp only at d0 d1 d2 hns
              obtain ⟨hna, hnb⟩ := hns
              have z0 := numS_size hna
              have z1 := numS_size hnb
              have z3 := word_small op
              have hin := insU_cases ⟨op, a, b⟩
              simp only at hin
              have HW := Lib.hid (fun wx => word_any op wx)
              have HO := Lib.hid (fun wx => operands_any op wx)
              have hwd : (wordS op).data.toList = wordU op := rfl
              have ho2 := opnds_two op
              generalize wordS op = S3 at *
              generalize opnds op = m at *
              have hI : (V4.alloc (.cells #[.int .i64 op, .int .i64 a, .int .i64 b] 64)).heap[V4.heap.size]? = some (.cells #[.int .i64 op, .int .i64 a, .int .i64 b] 64 (0, 0)) := new_heap V4 _
              have hBr : Below V4.heap.size V4 (V4.alloc (.cells #[.int .i64 op, .int .i64 a, .int .i64 b] 64)) := (Below.refl _ _).alloc (Nat.le_refl _) _
              obtain ⟨r0, r1, r2⟩ := ins_cells hI
              have e32 : (⟨#[32]⟩ : ByteArray).size = 1 := rfl
              have e10 : (⟨#[10]⟩ : ByteArray).size = 1 := rfl
              have hzV4 : V2.heap.size + 1 ≤ V4.heap.size := by have := hb4.size; omega
              have hq : ∀ X : List UInt8, insU ⟨op, a, b⟩ = X → Hid (S.data.toList ++ (X ++ ((code.drop (j + 1)).flatMap insU ++ (p.funs.drop (k + 1)).flatMap funU)) = textA p) := fun X hX => by
                show _ = _
                rw [← hX, ← Hpre.out, Hst.out]; simp only [List.append_assoc]
              have hb5 := hb4
              clear Hpre Hst
              rcases (by omega : m = 0 ∨ m = 1 ∨ m = 2) with rfl | rfl | rfl
              · have Hn := hq _ hin
                have Hn2 : Hid ((S ++ S3 ++ ⟨#[10]⟩).data.toList ++ ((code.drop (j + 1)).flatMap insU ++ (p.funs.drop (k + 1)).flatMap funU) = textA p) := by
                  show _ = _
                  rw [← Hn.out]; simp [ByteArray.data_append, numS_data, hwd]
                have y0 : ¬ (9223372036854775807 < S.size + S3.size) := by omega
                have y1 : ¬ (9223372036854775807 < S.size + S3.size + 1) := by omega
                clear hq hin Hn
                go_wp2_with (first
                  | (go_at_call 37; refine (HW.out _).mono ?_; rintro e wx1 ⟨rfl, hbx⟩; have hBr := hBr.trans (hbx.mono hBr.size); have hI := (hbx.block _ (heap_lt hI)).trans hI; obtain ⟨r0, r1, r2⟩ := ins_cells hI; clear hbx)
                  | (go_at_call 38; refine (HO.out _).mono ?_; rintro e wx1 ⟨rfl, rfl⟩)
                  | (go_at_call 35; refine (HD.out _ (by assumption) _).mono ?_; rintro e wx1 ⟨rfl, hbx⟩; have hBr := hBr.trans (hbx.mono hBr.size); have hI := (hbx.block _ (heap_lt hI)).trans hI; obtain ⟨r0, r1, r2⟩ := ins_cells hI; clear hbx))
                go_roundw
                case rel => exact ⟨j + 1, _, by omega, by go_num, rfl, Hn2, hb4.trans (hBr.mono hzV4)⟩
                case measure => simp [intOf]; omega
              · have Hn := hq _ hin
                have Hn2 : Hid ((S ++ S3 ++ ⟨#[32]⟩ ++ numS a ++ ⟨#[10]⟩).data.toList ++ ((code.drop (j + 1)).flatMap insU ++ (p.funs.drop (k + 1)).flatMap funU) = textA p) := by
                  show _ = _
                  rw [← Hn.out]; simp [ByteArray.data_append, numS_data, hwd]
                have y0 : ¬ (9223372036854775807 < S.size + S3.size) := by omega
                have y1 : ¬ (9223372036854775807 < S.size + S3.size + 1) := by omega
                have y2 : ¬ (9223372036854775807 < S.size + S3.size + 1 + (numS a).size) := by omega
                have y3 : ¬ (9223372036854775807 < S.size + S3.size + 1 + (numS a).size + 1) := by omega
                clear hq hin Hn
                go_wp2_with (first
                  | (go_at_call 37; refine (HW.out _).mono ?_; rintro e wx1 ⟨rfl, hbx⟩; have hBr := hBr.trans (hbx.mono hBr.size); have hI := (hbx.block _ (heap_lt hI)).trans hI; obtain ⟨r0, r1, r2⟩ := ins_cells hI; clear hbx)
                  | (go_at_call 38; refine (HO.out _).mono ?_; rintro e wx1 ⟨rfl, rfl⟩)
                  | (go_at_call 35; refine (HD.out _ (by assumption) _).mono ?_; rintro e wx1 ⟨rfl, hbx⟩; have hBr := hBr.trans (hbx.mono hBr.size); have hI := (hbx.block _ (heap_lt hI)).trans hI; obtain ⟨r0, r1, r2⟩ := ins_cells hI; clear hbx))
                go_roundw
                case rel => exact ⟨j + 1, _, by omega, by go_num, rfl, Hn2, hb4.trans (hBr.mono hzV4)⟩
                case measure => simp [intOf]; omega
              · have Hn := hq _ hin
                have Hn2 : Hid ((S ++ S3 ++ ⟨#[32]⟩ ++ numS a ++ ⟨#[32]⟩ ++ numS b ++ ⟨#[10]⟩).data.toList ++ ((code.drop (j + 1)).flatMap insU ++ (p.funs.drop (k + 1)).flatMap funU) = textA p) := by
                  show _ = _
                  rw [← Hn.out]; simp [ByteArray.data_append, numS_data, hwd]
                have y0 : ¬ (9223372036854775807 < S.size + S3.size) := by omega
                have y1 : ¬ (9223372036854775807 < S.size + S3.size + 1) := by omega
                have y2 : ¬ (9223372036854775807 < S.size + S3.size + 1 + (numS a).size) := by omega
                have y3 : ¬ (9223372036854775807 < S.size + S3.size + 1 + (numS a).size + 1) := by omega
                have y4 : ¬ (9223372036854775807 < S.size + S3.size + 1 + (numS a).size + 1 + (numS b).size) := by omega
                have y5 : ¬ (9223372036854775807 < S.size + S3.size + 1 + (numS a).size + 1 + (numS b).size + 1) := by omega
                clear hq hin Hn
                go_wp2_with (first
                  | (go_at_call 37; refine (HW.out _).mono ?_; rintro e wx1 ⟨rfl, hbx⟩; have hBr := hBr.trans (hbx.mono hBr.size); have hI := (hbx.block _ (heap_lt hI)).trans hI; obtain ⟨r0, r1, r2⟩ := ins_cells hI; clear hbx)
                  | (go_at_call 38; refine (HO.out _).mono ?_; rintro e wx1 ⟨rfl, rfl⟩)
                  | (go_at_call 35; refine (HD.out _ (by assumption) _).mono ?_; rintro e wx1 ⟨rfl, hbx⟩; have hBr := hBr.trans (hbx.mono hBr.size); have hI := (hbx.block _ (heap_lt hI)).trans hI; obtain ⟨r0, r1, r2⟩ := ins_cells hI; clear hbx))
                go_roundw
                case rel => exact ⟨j + 1, _, by omega, by go_num, rfl, Hn2, hb4.trans (hBr.mono hzV4)⟩
                case measure => simp [intOf]; omega
            · have Hpre7 : Hid (S.data.toList ++ (p.funs.drop (k + 1)).flatMap funU = textA p) := by
                show _ = _
                have := Hpre.out
                rw [List.drop_of_length_le (by omega)] at this
                exact this
              clear Hpre
              go_wp2_with fail
              go_round
              case rel => exact ⟨k + 1, _, by omega, by go_num, rfl, Hpre7, hbr4⟩
              case measure => simp [intOf]; omega
        · obtain rfl : k = p.funs.length := by omega
          have HE : Hid (S = ⟨(textA p).toArray⟩) := by
            refine byt_of _ _ ?_
            have := Hpre.out
            rw [List.drop_length] at this
            simpa using this
          clear Hpre
          go_wp2_with fail
          go_ret
          exact ⟨by rw [HE.out]; rfl, hbw⟩
end Go.Proofs.YtidffjlpldalpaaGreatDoor
