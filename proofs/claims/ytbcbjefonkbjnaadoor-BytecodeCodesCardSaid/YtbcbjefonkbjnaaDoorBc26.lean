/- BytecodeFlow: the walk. -/
import Derived.Test.YtbcbjefonkbjnaaDoorBc25
namespace Go.Proofs.YtbcbjefonkbjnaaDoor
open Go Go.RowKit

set_option maxHeartbeats 4000000 in
set_option maxRecDepth 100000 in
theorem flow_walk (fv tv : Value) (p : ProgD) (w : World) (h : IsProg w fv tv p) (hfl : p.funs.length ≤ maxLen) (htl : p.texts.length ≤ maxLen) :
    Calls Tryd.prog 3 #[.agg #[fv, tv, .int .i64 p.main]] w fun e w' => e = .returned (.bool true) ∧ Below w.heap.size w w' := by
  have Hp := Lib.hid h
  have hs0 : Below w.heap.size w (w.alloc (.cells #[fv, tv, .int .i64 p.main] 25)) := (Below.refl _ _).alloc (Nat.le_refl _) _
  have hP : (w.alloc (.cells #[fv, tv, .int .i64 p.main] 25)).heap[w.heap.size]? = some (.cells #[fv, tv, .int .i64 p.main] 25 (0, 0)) := new_heap w _
  obtain ⟨⟨⟨fa, fc, rfl, hfc, _⟩, _⟩, ⟨ta, tc, rfl, htc, _⟩⟩ := h
  have hm : maxLen = 9223372036854775807 := by decide
  rw [hm] at hfl htl
  clear hm
  go_enter Tryd.func3, Tryd.ntmps3
  go_wp2_with fail
  generalize w.alloc (.cells #[.slice fa p.funs.length fc, .slice ta p.texts.length tc, .int .i64 p.main] 25) = W0 at *
  refine (awake_any _).mono ?_
  rintro e w1 ⟨rfl, hb1⟩
  have hbb1 : Below w.heap.size w w1 := hs0.trans (hb1.mono hs0.size)
  have hP1 := (hb1.block _ (heap_lt hP)).trans hP
  obtain ⟨p0, p1, p2⟩ := ins_cells hP1
  have HG := Lib.hid (great_any (.slice fa p.funs.length fc) (.slice ta p.texts.length tc) p w1 (Hp.out.below hbb1) hfl htl)
  clear hs0 hP hb1
  go_wp2_with fail
  refine HG.out.mono ?_
  rintro e w2 ⟨rfl, hb2⟩
  have hbb2 : Below w.heap.size w w2 := hbb1.trans (hb2.mono hbb1.size)
  have hP2 := (hb2.block _ (heap_lt hP1)).trans hP1
  obtain ⟨g, hg⟩ : ∃ g, greatB p = g := ⟨_, rfl⟩
  have Hg := Lib.hid hg
  rw [hg]
  clear hg HG hbb1 hP1 hb2 p0 p1 p2
  cases g
  rotate_left
  · go_wp2_with fail
    go_ret
    exact ⟨rfl, hbb2⟩
  · obtain ⟨n1, n2, n3, _⟩ := great_no p Hg.out
    have HN3 := Lib.hid n3
    clear n3
    obtain ⟨p0, p1, p2⟩ := ins_cells hP2
    have HV := Lib.hid (valid_any (.slice fa p.funs.length fc) (.slice ta p.texts.length tc) p w2 (Hp.out.below hbb2) (by omega) (by omega) (fun s _ => quoted_any s))
    go_wp2_with fail
    refine HV.out.mono ?_
    rintro e w3 ⟨rfl, hb3⟩
    have hbb3 : Below w.heap.size w w3 := hbb2.trans (hb3.mono hbb2.size)
    have hP3 := (hb3.block _ (heap_lt hP2)).trans hP2
    obtain ⟨q, hq⟩ : ∃ q, validB p = q := ⟨_, rfl⟩
    have Hq := Lib.hid hq
    rw [hq]
    clear hq HV hbb2 hP2 hb3 p0 p1 p2
    cases q
    · go_wp2_with fail
      go_ret
      exact ⟨rfl, hbb3⟩
    · obtain ⟨v1, v2, v3, v4, v5, v6, v7⟩ := valid_parts p Hq.out
      have HV4 := Lib.hid v4
      have HV5 := Lib.hid v5
      clear v4 v5
      obtain ⟨p0, p1, p2⟩ := ins_cells hP3
      clear p1 p2 hP3
      go_wp2_with fail
      go_loopw [24] (fun i wr => (∃ k : Nat, k ≤ p.funs.length ∧ i = .int .i64 k) ∧ Below w.heap.size w wr) (fun i _ => p.funs.length - (intOf i).toNat)
      case atStart => exact ⟨⟨0, Nat.zero_le _, rfl⟩, hbb3⟩
      case round =>
        rename World => V2
        clear p0 hbb3
        obtain ⟨⟨k, hk, rfl⟩, hbw⟩ := hrel
        by_cases hkl : k < p.funs.length
        · obtain ⟨b, off, fc', fd, _, hbl, c0, c1, c2, c3⟩ := Hp.out.1.at' k hkl
          obtain rfl := (Value.slice.inj fd).1
          have d0 := (hbw.cell (p := ⟨b, off + k * 4, none⟩) hbl).trans c0
          have d1 := (hbw.cell (p := ⟨b, off + k * 4 + 1, none⟩) hbl).trans c1
          have d2 := (hbw.cell (p := ⟨b, off + k * 4 + 2, none⟩) hbl).trans c2
          have d3 := (hbw.cell (p := ⟨b, off + k * 4 + 3, none⟩) hbl).trans c3
          have hcode := Hp.out.1.2 _ (getD_mem default p.funs k hkl)
          have hrights := HV5.out _ (getD_mem default p.funs k hkl)
          have h60 := HN3.out _ (getD_mem default p.funs k hkl)
          clear c0 c1 c2 c3 fd
          generalize p.funs.getD k default = f at *
          obtain ⟨c, l, d, v, code⟩ := f
          have Hcode : Hid (IsCode w v code) := hcode
          obtain ⟨ca, cc, hv, hcc, _⟩ := hcode
          simp only at hv d0 d1 d2 d3 hcc h60
          subst hv
          have Hfl : Hid (∀ j, j < code.length → _) := fun j hj => flow_law p.texts.length p.funs c l code j hj HV4.out (by
            rw [rightsB_eq, List.all_eq_true] at hrights
            exact hrights j (by simpa using hj))
          clear hrights
          have hF : (V2.alloc (.cells #[.int .i64 c, .int .i64 l, .int .i64 d, .slice ca code.length cc] 30)).heap[V2.heap.size]? = some (.cells #[.int .i64 c, .int .i64 l, .int .i64 d, .slice ca code.length cc] 30 (0, 0)) := new_heap V2 _
          have hbF : Below w.heap.size w (V2.alloc (.cells #[.int .i64 c, .int .i64 l, .int .i64 d, .slice ca code.length cc] 30)) := hbw.alloc hbw.size _
          go_wp2_with fail
          generalize V2.alloc (.cells #[.int .i64 c, .int .i64 l, .int .i64 d, .slice ca code.length cc] 30) = W2 at *
          clear d0 d1 d2 d3 hbw
          go_loopw [31] (fun i wr => (∃ j : Nat, j ≤ code.length ∧ i = .int .i64 j ∧ Hid (wr.heap[V2.heap.size]? = some (.cells #[.int .i64 c, .int .i64 l, .int .i64 d, .slice ca code.length cc] 30 (0, 0)))) ∧ Below w.heap.size w wr) (fun i _ => code.length - (intOf i).toNat)
          case atStart => exact ⟨⟨0, Nat.zero_le _, rfl, hF⟩, hbF⟩
          case round =>
            rename World => V4
            clear hF hbF
            obtain ⟨⟨j, hj, rfl, HF4⟩, hbw4⟩ := hrel
            by_cases hjl : j < code.length
            · obtain ⟨b', off', cc', fd', _, hbl', c0, c1, c2⟩ := code_at Hcode.out j hjl
              obtain rfl := (Value.slice.inj fd').1
              have d0 := (hbw4.cell (p := ⟨b', off' + j * 3, none⟩) hbl').trans c0
              have d1 := (hbw4.cell (p := ⟨b', off' + j * 3 + 1, none⟩) hbl').trans c1
              have d2 := (hbw4.cell (p := ⟨b', off' + j * 3 + 2, none⟩) hbl').trans c2
              have hfw := Hfl.out j hjl
              clear c0 c1 c2 fd'
              generalize code.getD j default = i at *
              obtain ⟨op, a, b⟩ := i
              simp only at d0 d1 d2 hfw
              obtain ⟨hx2, hx1, htg⟩ := hfw
              have hE : effV op a b = .tuple #[.int .i64 (effT op a b).1, .int .i64 (effT op a b).2.1, .int .i64 (effT op a b).2.2] := rfl
              rw [hx2] at hE
              generalize (effT op a b).1 = x0 at hE
              generalize (effT op a b).2.1 = x1 at hE hx1
              have HE := Lib.hid hE
              have HTG := Lib.hid htg
              clear hE htg hx2
              have hI : (V4.alloc (.cells #[.int .i64 op, .int .i64 a, .int .i64 b] 32)).heap[V4.heap.size]? = some (.cells #[.int .i64 op, .int .i64 a, .int .i64 b] 32 (0, 0)) := new_heap V4 _
              have hbI : Below V4.heap.size V4 (V4.alloc (.cells #[.int .i64 op, .int .i64 a, .int .i64 b] 32)) := (Below.refl _ _).alloc (Nat.le_refl _) _
              have hFI := (hbI.block _ (heap_lt HF4.out)).trans HF4.out
              have hbwI : Below w.heap.size w (V4.alloc (.cells #[.int .i64 op, .int .i64 a, .int .i64 b] 32)) := hbw4.trans (hbI.mono hbw4.size)
              go_wp2_with fail
              generalize V4.alloc (.cells #[.int .i64 op, .int .i64 a, .int .i64 b] 32) = W5 at *
              refine (effect_any _ _ _ _).mono ?_
              rintro e w6 ⟨rfl, hb6⟩
              rw [HE.out]
              have hI6 := (hb6.block _ (heap_lt hI)).trans hI
              have hF6 := (hb6.block _ (heap_lt hFI)).trans hFI
              have hbw6 : Below w.heap.size w w6 := hbwI.trans (hb6.mono hbwI.size)
              obtain ⟨f0, f1, f2, f3⟩ := fun_cells hF6
              have HT := Lib.hid (targets_any c l d j _ code w6 (IsRow.below Hcode.out hbw6) (by omega))
              clear d0 d1 d2 hI hFI hbI hbwI hb6
              go_wp2_with fail
              refine HT.out.mono ?_
              rintro e w7 ⟨tv1, rfl, hr1, hb7⟩
              have hI7 := (hb7.block _ (heap_lt hI6)).trans hI6
              have hF7 := (hb7.block _ (heap_lt hF6)).trans hF6
              have hbw7 : Below w.heap.size w w7 := hbw6.trans (hb7.mono hbw6.size)
              have HF7 := Lib.hid hF7
              clear f0 f1 f2 f3 HT hI6 hF6 hbw6 hb7
              obtain ⟨i0, i1, i2⟩ := ins_cells hI7
              obtain ⟨f0, f1, f2, f3⟩ := fun_cells hF7
              clear hF7
              rcases HTG.out with ⟨ht, hlast⟩ | ⟨tl, ht, hz, hany, hlen⟩
              · rw [ht] at hr1 ⊢
                obtain ⟨ra, rc, rfl, _, _⟩ := hr1
                have hne : ((j : Int) == (code.length : Int) - 1) = true := by rw [beq_iff_eq]; omega
                simp only [List.length_nil] at *
                go_wp2_with fail
                go_round
                case rel => exact ⟨⟨j + 1, by omega, by go_num, HF7⟩, hbw7⟩
                case measure => simp [intOf]; omega
              · rw [ht] at hr1 ⊢
                have HC := Lib.hid (containsF_any tv1 tl c l d code.length V2.heap.size w7 (by omega) _ cc hr1 (by omega) HF7.out)
                obtain ⟨ra, rc, rfl, _, _⟩ := hr1
                have Hany := Lib.hid hany
                simp only at *
                have hz' : tl.length = 0 ↔ (op = 9 ∨ op = 16) := hz
                clear hany hz
                by_cases h9 : op = 9
                · subst h9
                  have hzz : ((tl.length : Int) == 0) = true := by rw [hz'.2 (.inl rfl)]; rfl
                  clear hz'
                  go_wp2_with fail
                  refine HC.out.mono ?_
                  rintro e w8 ⟨rfl, rfl⟩
                  rw [Hany.out]
                  go_wp2_with fail
                  go_round
                  case rel => exact ⟨⟨j + 1, by omega, by go_num, HF7⟩, hbw7⟩
                  case measure => simp [intOf]; omega
                · by_cases h16 : op = 16
                  · subst h16
                    have hzz : ((tl.length : Int) == 0) = true := by rw [hz'.2 (.inr rfl)]; rfl
                    clear hz'
                    go_wp2_with fail
                    refine HC.out.mono ?_
                    rintro e w8 ⟨rfl, rfl⟩
                    rw [Hany.out]
                    go_wp2_with fail
                    go_round
                    case rel => exact ⟨⟨j + 1, by omega, by go_num, HF7⟩, hbw7⟩
                    case measure => simp [intOf]; omega
                  · have hzz : ((tl.length : Int) == 0) = false := by rw [beq_eq_false_iff_ne]; intro e; exact (hz'.1 (by omega)).elim h9 h16
                    have h9' : (op == 9) = false := beq_eq_false_iff_ne.2 h9
                    have h16' : (op == 16) = false := beq_eq_false_iff_ne.2 h16
                    clear hz' h9 h16
                    go_wp2_with fail
                    refine HC.out.mono ?_
                    rintro e w8 ⟨rfl, rfl⟩
                    rw [Hany.out]
                    go_wp2_with fail
                    go_round
                    case rel => exact ⟨⟨j + 1, by omega, by go_num, HF7⟩, hbw7⟩
                    case measure => simp [intOf]; omega
            · go_wp2_with fail
              go_round
              case rel => exact ⟨⟨k + 1, by omega, by go_num⟩, hbw4⟩
              case measure => simp [intOf]; omega
        · go_wp2_with fail
          go_ret
          exact ⟨rfl, hbw⟩
end Go.Proofs.YtbcbjefonkbjnaaDoor
