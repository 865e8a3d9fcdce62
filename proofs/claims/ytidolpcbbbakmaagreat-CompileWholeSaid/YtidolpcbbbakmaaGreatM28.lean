/- The reference's look at expressions: count, body, closures. The reference's look at expressions: body (printed by gen_body.py). -/
import Derived.Test.YtidolpcbbbakmaaGreatM27
namespace Go.Proofs.YtidolpcbbbakmaaGreat
open Go Go.RowKit
open Go.Maps

def cloN (n _ : Int) : Bool := decide (0 ≤ n)
theorem form_ref (caps loc op n : Int) (s : ByteArray) (k : Nat) : formB caps cloN loc op n s k = (flatR op n s k && (!(decide (op = 21) && decide (loc ≤ n)) && !(decide (op = 23) && decide (caps ≤ n)))) := by
  by_cases h : op = 2 ∨ op = 3 ∨ op = 6 ∨ op = 7 ∨ op = 8 ∨ op = 9 ∨ op = 11 ∨ op = 12 ∨ op = 13 ∨ op = 21 ∨ op = 22 ∨ op = 23 ∨ op = 24 ∨ op = 25
  · by_cases h3 : op = 3
    · subst h3
      rw [formE_3 (.inl rfl), flatR_3]; simp
    · by_cases hs : s.size = 0
      · rcases h with rfl | rfl | rfl | rfl | rfl | rfl | rfl | rfl | rfl | rfl | rfl | rfl | rfl | rfl
        · rw [formE_2 (.inr hs), flatR_2]; simp [hs]
        · exact absurd rfl h3
        · rw [formE_6 (.inr hs), flatR_6]; simp [hs]
        · rw [formE_7 (.inr hs), flatR_7]; simp [hs]
        · rw [formE_8 (.inr hs), flatR_8]; simp [hs]
        · rw [formE_9 (.inr hs), flatR_9]; simp [hs]
        · rw [formE_11 (.inr hs), flatR_11]; simp [hs, Bool.and_comm]
        · rw [formE_12 (.inr hs), flatR_12]; simp [hs]
        · rw [formE_13 (.inr hs), flatR_13]; simp [hs]
        · rw [formE_21 (.inr hs), flatR_21, Bool.eq_iff_iff]; simp [hs, inB]; omega
        · rw [formE_22 (.inr hs), flatR_22]; simp [hs]
        · rw [formE_23 (.inr hs), flatR_23, Bool.eq_iff_iff]; simp [hs, inB]; omega
        · rw [formE_24 (.inr hs), flatR_24]; simp [hs, cloN]
        · rw [formE_25 (.inr hs), flatR_25]; simp [hs, Bool.and_comm]
      · rw [formE_s h3 hs]
        rcases h with rfl | rfl | rfl | rfl | rfl | rfl | rfl | rfl | rfl | rfl | rfl | rfl | rfl | rfl
        · rw [flatR_2]; simp [hs]
        · exact absurd rfl h3
        · rw [flatR_6]; simp [hs]
        · rw [flatR_7]; simp [hs]
        · rw [flatR_8]; simp [hs]
        · rw [flatR_9]; simp [hs]
        · rw [flatR_11]; simp [hs]
        · rw [flatR_12]; simp [hs]
        · rw [flatR_13]; simp [hs]
        · rw [flatR_21]; simp [hs]
        · rw [flatR_22]; simp [hs]
        · rw [flatR_23]; simp [hs]
        · rw [flatR_24]; simp [hs]
        · rw [flatR_25]; simp [hs]
  · rw [formE_no h, flatR_no h]; rfl
theorem further_any (op n : Int) (s : ByteArray) (v : Value) (part : Int) (w : World) : Calls Tryz.prog 85 #[.agg #[.int .i64 op, .int .i64 n, .string s, v], .int .i64 part] w (FormOk (bindB op part) w) := by
  have hb := box_exp op n s v w
  by_cases hp : 0 < part
  · have Hp := Lib.hid (decide_eq_true hp)
    by_cases h11 : op = 11
    · subst h11
      go_enter Tryz.func85, Tryz.ntmps85
      go_wp2_with fail
      go_ret
      exact ⟨by unfold bindB; rw [Hp.out]; rfl, hb⟩
    · have y11 : (op == 11) = false := beq_eq_false_iff_ne.2 h11
      by_cases h9 : op = 9
      · subst h9
        go_enter Tryz.func85, Tryz.ntmps85
        go_wp2_with fail
        go_ret
        exact ⟨by unfold bindB; rw [Hp.out]; rfl, hb⟩
      · have y9 : (op == 9) = false := beq_eq_false_iff_ne.2 h9
        have Hz : Hid (bindB op part = false) := by unfold bindB; rw [y11, y9]; rfl
        go_enter Tryz.func85, Tryz.ntmps85
        go_wp2_with fail
        go_ret
        exact ⟨by rw [Hz.out]; rfl, hb⟩
  · have Hz := Lib.hid (show bindB op part = false from by unfold bindB; rw [decide_eq_false hp]; simp)
    go_enter Tryz.func85, Tryz.ntmps85
    go_wp2_with fail
    go_ret
    exact ⟨by rw [Hz.out]; rfl, hb⟩
def CountOk (x : ExpD) (w : World) (e : Ending) (w' : World) : Prop := e = .returned (.int .i64 (sizeX x)) ∧ Below w.heap.size w w'
set_option maxHeartbeats 2000000 in
set_option maxRecDepth 100000 in
theorem count_any (B : Nat) (x : ExpD) : ∀ (w : World) (left depth : Nat), B ≤ w.heap.size → IsExp B w x → sizeX x ≤ left → left ≤ 100000 → depth + heightX x ≤ 401 → Calls Tryz.prog 67 #[expV x, .int .i64 left, .int .i64 depth] w (CountOk x w) := by
  induction x using ExpD.induct with
  | h op n s lv l ih =>
    intro w left depth hBw hx hsz hlf hd
    rw [expV_mk]
    have HIH := Lib.hid ih
    obtain ⟨hr, hm, hy⟩ := hx.parts
    rw [sizeX_mk] at hsz
    rw [heightX_mk] at hd
    have hll := length_le l
    have HY := Lib.hid hy
    have HR := Lib.hid hr
    obtain ⟨a, c, rfl, hlc, _⟩ := hr
    have hb1 := box_exp op n s (.slice a l.length c) w
    have gP := new_heap w (.cells #[.int .i64 op, .int .i64 n, .string s, .slice a l.length c] 29)
    have HGP := Lib.hid gP
    have hd0 : ¬ (400 : Int) < (depth : Int) := by omega
    clear ih hx hy gP hm
    go_enter Tryz.func67, Tryz.ntmps67
    go_wp2_with fail
    generalize w.alloc (.cells #[.int .i64 op, .int .i64 n, .string s, .slice a l.length c] 29) = W at *
    have hBW := Below.refl W.heap.size W
    go_loopw [7, 8] (fun m i wr => ∃ (k ms : Nat), k ≤ l.length ∧ i = .int .i64 k ∧ m = .int .i64 ms ∧ Hid (ms = sizeL (l.take k) + 1) ∧ Below w.heap.size w wr ∧ Below W.heap.size W wr) (fun _ i _ => l.length - (intOf i).toNat)
    case atStart => exact ⟨0, 1, Nat.zero_le _, rfl, rfl, show 1 = sizeL (l.take 0) + 1 from by rw [List.take_zero, sizeL_nil], hb1, hBW⟩
    case round =>
      obtain ⟨k, ms, hk, rfl, rfl, HS, hbr, hbW⟩ := hrel
      have hst := sizeL_take l k
      have hms := HS.out
      have gPr := (hbW.block _ (heap_lt HGP.out)).trans HGP.out
      obtain ⟨p0, p1, p2, p3⟩ := exp_box gPr
      by_cases hkl : k < l.length
      · obtain ⟨b, off, rfl, hbB, c0, c1, c2, c3⟩ := parts_at HR.out (hbr.mono hBw) k hkl
        have hmem := getD_mem default l k hkl
        have hT := take_one default l k hkl
        have hT1 : sizeL (l.take (k + 1)) = sizeL (l.take k) + sizeX (l.getD k default) := by rw [hT, sizeL_snoc]
        have hyk := HY.out _ hmem
        have hih := HIH.out _ hmem
        have hT2 := sizeL_take l (k + 1)
        have hhm := heightL_mem hmem
        clear hT hmem
        generalize l.getD k default = x at *
        have hpx := sizeX_pos x
        obtain ⟨xo, xn, xs, xv, xl⟩ := x
        obtain ⟨xa, xc, rfl, _⟩ := hyk.parts.1
        simp only [ExpD.op, ExpD.n, ExpD.s, ExpD.lv] at c0 c1 c2 c3
        have HM := Lib.hid (hih wr (left - ms) (depth + 1) (by have := hbr.size; omega) (hyk.under (hbr.mono hBw)) (by omega) (by omega) (by omega))
        rw [expV_mk] at HM
        generalize hsx : sizeX (.mk xo xn xs (.slice xa xl.length xc) xl) = sx at *
        unfold CountOk at HM
        rw [hsx] at HM
        have hlt : ms < left := by omega
        have hsub : ((left - ms : Nat) : Int) = (left : Int) - (ms : Int) := by omega
        have hdd : ((depth + 1 : Nat) : Int) = (depth : Int) + 1 := by omega
        rw [hsub, hdd] at HM
        have HS2 : Hid (ms + sx = sizeL (l.take (k + 1)) + 1) := show ms + sx = _ from by omega
        have hsx2 : ms + sx ≤ left := by omega
        clear hih hyk hst hms hT1 hT2 hsub hdd
        go_wp2_with fail
        refine HM.out.mono ?_
        rintro e w2 ⟨rfl, hb4⟩
        have hbe := hbr.trans (hb4.mono hbr.size)
        have hbe2 := hbW.trans (hb4.mono hbW.size)
        clear hb4 c0 c1 c2 c3 p0 p1 p2 p3 HM
        go_wp2_with fail
        go_roundw
        case rel => exact ⟨k + 1, ms + sx, by omega, by go_num, by go_num, HS2, hbe, hbe2⟩
        case measure => simp [intOf]; omega
      · go_wp2_with fail
        go_ret
        have := HS.out
        rw [List.take_of_length_le (by omega)] at this
        refine ⟨?_, hbr⟩
        rw [sizeX_mk, ← this]
        rfl

set_option maxHeartbeats 8000000 in
set_option maxRecDepth 100000 in
theorem body_any (B : Nat) (caps : Int) (x : ExpD) : ∀ (loc : Int) (w : World), B ≤ w.heap.size → IsExp B w x → 0 ≤ loc → loc + heightX x ≤ 1000000 →
    Calls Tryz.prog 68 #[expV x, .int .i64 caps, .int .i64 loc] w (FormOk (flatX caps cloN loc x) w) := by
  induction x using ExpD.induct with
  | h op n s lv l ih =>
    intro loc w hBw hx hl0 hl1
    rw [expV_mk]
    have HIH := Lib.hid ih
    obtain ⟨hr, hm, hy⟩ := hx.parts
    have HY := Lib.hid hy
    have HR := Lib.hid hr
    have hm' : l.length ≤ 9223372036854775807 := by unfold maxLen at hm; omega
    rw [heightX_mk] at hl1
    obtain ⟨a, c, rfl, hlc, _⟩ := hr
    have hb1 := box_exp op n s (.slice a l.length c) w
    have gP := new_heap w (.cells #[.int .i64 op, .int .i64 n, .string s, .slice a l.length c] 29)
    obtain ⟨p0, p1, p2, p3⟩ := exp_box gP
    have HGP := Lib.hid gP
    have HFL := Lib.hid (flatr_any op n s a l.length c (w.alloc (.cells #[.int .i64 op, .int .i64 n, .string s, .slice a l.length c] 29)))
    have HFO := Lib.hid (form_ref caps loc op n s l.length)
    have HB1 := Lib.hid hb1
    clear ih hx hy gP hm hb1
    obtain ⟨bf, hbf⟩ : ∃ bf, flatR op n s l.length = bf := ⟨_, rfl⟩
    rw [hbf] at HFL HFO
    clear hbf
    generalize hW : w.alloc (.cells #[.int .i64 op, .int .i64 n, .string s, .slice a l.length c] 29) = W at *
    cases bf
    · have HF : Hid (flatX caps cloN loc (.mk op n s (.slice a l.length c) l) = false) := flat_no1 (by rw [HFO.out]; rfl)
      go_enter Tryz.func68, Tryz.ntmps68
      go_wp2_with fail
      refine HFL.out.mono ?_
      rintro e w2 ⟨rfl, hb2⟩
      have HB2 := Lib.hid (HB1.out.trans (hb2.mono HB1.out.size))
      have HBW2 := Lib.hid hb2
      have gP2 := (hb2.block _ (heap_lt HGP.out)).trans HGP.out
      clear hb2 p0 p1 p2 p3
      obtain ⟨p0, p1, p2, p3⟩ := exp_box gP2
      clear gP2
      go_wp2_with fail
      go_ret
      exact ⟨by rw [HF.out]; rfl, HB2.out⟩
    · by_cases h21 : op = 21
      · subst h21
        by_cases hn : loc ≤ n
        · have HF : Hid (flatX caps cloN loc (.mk 21 n s (.slice a l.length c) l) = false) := flat_no1 (by rw [HFO.out]; simp; omega)
          go_enter Tryz.func68, Tryz.ntmps68
          go_wp2_with fail
          refine HFL.out.mono ?_
          rintro e w2 ⟨rfl, hb2⟩
          have HB2 := Lib.hid (HB1.out.trans (hb2.mono HB1.out.size))
          have HBW2 := Lib.hid hb2
          have gP2 := (hb2.block _ (heap_lt HGP.out)).trans HGP.out
          clear hb2 p0 p1 p2 p3
          obtain ⟨p0, p1, p2, p3⟩ := exp_box gP2
          clear gP2
          go_wp2_with fail
          go_ret
          exact ⟨by rw [HF.out]; rfl, HB2.out⟩
        · have HFM := Lib.hid (show formB caps cloN loc 21 n s l.length = true from by rw [HFO.out]; simp; omega)
          go_enter Tryz.func68, Tryz.ntmps68
          go_wp2_with fail
          refine HFL.out.mono ?_
          rintro e w2 ⟨rfl, hb2⟩
          have HB2 := Lib.hid (HB1.out.trans (hb2.mono HB1.out.size))
          have HBW2 := Lib.hid hb2
          have gP2 := (hb2.block _ (heap_lt HGP.out)).trans HGP.out
          clear hb2 p0 p1 p2 p3
          obtain ⟨p0, p1, p2, p3⟩ := exp_box gP2
          clear gP2
          go_wp2_with fail
          go_loopw [7] (fun i wr => ∃ k : Nat, k ≤ l.length ∧ i = .int .i64 k ∧ Hid (∀ i, i < k → flatX caps cloN (lo 21 loc i) (l.getD i default) = true) ∧ Hid (Below w.heap.size w wr) ∧ Hid (Below W.heap.size W wr)) (fun i _ => l.length - (intOf i).toNat)
          case atStart => exact ⟨0, Nat.zero_le _, rfl, fun i hi => by omega, HB2, HBW2⟩
          case round =>
            obtain ⟨k, hk, rfl, HS, HBR, HBRW⟩ := hrel
            have gPr := (HBRW.out.block _ (heap_lt HGP.out)).trans HGP.out
            obtain ⟨p0, p1, p2, p3⟩ := exp_box gPr
            by_cases hkl : k < l.length
            · have HFU := Lib.hid (further_any 21 n s (.slice a l.length c) k wr)
              obtain ⟨bk, hbk⟩ : ∃ bk, bindB 21 k = bk := ⟨_, rfl⟩
              have Hbk := Lib.hid hbk
              rw [hbk] at HFU
              clear hbk
              have hmem := getD_mem default l k hkl
              have HN := Lib.hid (flat_no (caps := caps) (clo := cloN) (loc := loc) (op := 21) (n := n) (s := s) (v := .slice a l.length c) k hkl)
              have HS2 := Lib.hid (fun (hx : flatX caps cloN (lo 21 loc k) (l.getD k default) = true) (i : Nat) (hi : i < k + 1) => show flatX caps cloN (lo 21 loc i) (l.getD i default) = true from by
                by_cases e : i = k
                · subst e; exact hx
                · exact HS.out i (by omega))
              have HIK := Lib.hid (HIH.out _ hmem)
              have hyk := (HY.out _ hmem).under (HBR.out.mono hBw)
              have HYK := Lib.hid hyk
              have hhm := heightL_mem hmem
              have HPA := Lib.hid (fun (w3 : World) (hb : Below B w w3) => parts_at HR.out hb k hkl)
              have hlw : lo 21 loc k = loc ∨ lo 21 loc k = loc + 1 := by unfold lo bump; split <;> (try split) <;> omega
              clear hmem
              generalize l.getD k default = x at *
              obtain ⟨xo, xn, xs, xv, xl⟩ := x
              obtain ⟨xa, xc, hxv, _⟩ := hyk.parts.1
              subst hxv
              clear hyk
              cases bk
              · have hlo := lo_f (loc := loc) Hbk.out
                rw [hlo] at HN HS2
                go_wp2_with fail
                refine HFU.out.mono ?_
                rintro e w3 ⟨rfl, hb3⟩
                have hbw3 := HBR.out.trans (hb3.mono HBR.out.size)
                have HBW3 := Lib.hid (HBRW.out.trans (hb3.mono HBRW.out.size))
                have gP3 := (HBW3.out.block _ (heap_lt HGP.out)).trans HGP.out
                clear p0 p1 p2 p3
                obtain ⟨p0, p1, p2, p3⟩ := exp_box gP3
                obtain ⟨b, off, rfl, hbB, c0, c1, c2, c3⟩ := HPA.out w3 (hbw3.mono hBw)
                simp only [ExpD.op, ExpD.n, ExpD.s, ExpD.lv] at c0 c1 c2 c3
                have HM := Lib.hid (HIK.out loc w3 (by have := hbw3.size; omega) (HYK.out.under (hb3.mono (by have := HBR.out.size; omega))) hl0 (by omega))
                rw [expV_mk] at HM
                have HBW4 := Lib.hid hbw3
                clear hb3 hbw3 gP3 HFU hlo
                obtain ⟨bx, hbx⟩ : ∃ bx, flatX caps cloN loc (.mk xo xn xs (.slice xa xl.length xc) xl) = bx := ⟨_, rfl⟩
                have Hbx := Lib.hid hbx
                rw [hbx] at HM
                clear hbx
                go_wp2_with fail
                refine HM.out.mono ?_
                rintro e w4 ⟨rfl, hb4⟩
                have HB5 := Lib.hid (HBW4.out.trans (hb4.mono HBW4.out.size))
                have HB6 := Lib.hid (HBW3.out.trans (hb4.mono HBW3.out.size))
                clear hb4 HM p0 p1 p2 p3 c0 c1 c2 c3
                cases bx
                · go_wp2_with fail
                  go_ret
                  exact ⟨by rw [HN.out Hbx.out]; rfl, HB5.out⟩
                · have HS3 := Lib.hid (HS2.out Hbx.out)
                  go_wp2_with fail
                  go_roundw
                  case rel => exact ⟨k + 1, by omega, by go_num, HS3, HB5, HB6⟩
                  case measure => simp [intOf]; omega
              · have hlo := lo_t (loc := loc) Hbk.out
                rw [hlo] at HN HS2
                go_wp2_with fail
                refine HFU.out.mono ?_
                rintro e w3 ⟨rfl, hb3⟩
                have hbw3 := HBR.out.trans (hb3.mono HBR.out.size)
                have HBW3 := Lib.hid (HBRW.out.trans (hb3.mono HBRW.out.size))
                have gP3 := (HBW3.out.block _ (heap_lt HGP.out)).trans HGP.out
                clear p0 p1 p2 p3
                obtain ⟨p0, p1, p2, p3⟩ := exp_box gP3
                obtain ⟨b, off, rfl, hbB, c0, c1, c2, c3⟩ := HPA.out w3 (hbw3.mono hBw)
                simp only [ExpD.op, ExpD.n, ExpD.s, ExpD.lv] at c0 c1 c2 c3
                have HM := Lib.hid (HIK.out (loc + 1) w3 (by have := hbw3.size; omega) (HYK.out.under (hb3.mono (by have := HBR.out.size; omega))) (by omega) (by omega))
                rw [expV_mk] at HM
                have HBW4 := Lib.hid hbw3
                clear hb3 hbw3 gP3 HFU hlo
                obtain ⟨bx, hbx⟩ : ∃ bx, flatX caps cloN (loc + 1) (.mk xo xn xs (.slice xa xl.length xc) xl) = bx := ⟨_, rfl⟩
                have Hbx := Lib.hid hbx
                rw [hbx] at HM
                clear hbx
                go_wp2_with fail
                refine HM.out.mono ?_
                rintro e w4 ⟨rfl, hb4⟩
                have HB5 := Lib.hid (HBW4.out.trans (hb4.mono HBW4.out.size))
                have HB6 := Lib.hid (HBW3.out.trans (hb4.mono HBW3.out.size))
                clear hb4 HM p0 p1 p2 p3 c0 c1 c2 c3
                cases bx
                · go_wp2_with fail
                  go_ret
                  exact ⟨by rw [HN.out Hbx.out]; rfl, HB5.out⟩
                · have HS3 := Lib.hid (HS2.out Hbx.out)
                  go_wp2_with fail
                  go_roundw
                  case rel => exact ⟨k + 1, by omega, by go_num, HS3, HB5, HB6⟩
                  case measure => simp [intOf]; omega
            · have hall : ∀ i, i < l.length → flatX caps cloN (lo 21 loc i) (l.getD i default) = true := fun i hi => HS.out i (by omega)
              have HA := Lib.hid (flat_yes (v := .slice a l.length c) HFM.out hall)
              clear hall
              go_wp2_with fail
              go_ret
              exact ⟨by rw [HA.out]; rfl, HBR.out⟩
      · have z21 : ¬ op = 21 := h21
        have y21 : (op == 21) = false := beq_eq_false_iff_ne.2 h21
        by_cases h23 : op = 23
        · subst h23
          by_cases hn : caps ≤ n
          · have HF : Hid (flatX caps cloN loc (.mk 23 n s (.slice a l.length c) l) = false) := flat_no1 (by rw [HFO.out]; simp; omega)
            go_enter Tryz.func68, Tryz.ntmps68
            go_wp2_with fail
            refine HFL.out.mono ?_
            rintro e w2 ⟨rfl, hb2⟩
            have HB2 := Lib.hid (HB1.out.trans (hb2.mono HB1.out.size))
            have HBW2 := Lib.hid hb2
            have gP2 := (hb2.block _ (heap_lt HGP.out)).trans HGP.out
            clear hb2 p0 p1 p2 p3
            obtain ⟨p0, p1, p2, p3⟩ := exp_box gP2
            clear gP2
            go_wp2_with fail
            go_ret
            exact ⟨by rw [HF.out]; rfl, HB2.out⟩
          · have HFM := Lib.hid (show formB caps cloN loc 23 n s l.length = true from by rw [HFO.out]; simp; omega)
            go_enter Tryz.func68, Tryz.ntmps68
            go_wp2_with fail
            refine HFL.out.mono ?_
            rintro e w2 ⟨rfl, hb2⟩
            have HB2 := Lib.hid (HB1.out.trans (hb2.mono HB1.out.size))
            have HBW2 := Lib.hid hb2
            have gP2 := (hb2.block _ (heap_lt HGP.out)).trans HGP.out
            clear hb2 p0 p1 p2 p3
            obtain ⟨p0, p1, p2, p3⟩ := exp_box gP2
            clear gP2
            go_wp2_with fail
            go_loopw [7] (fun i wr => ∃ k : Nat, k ≤ l.length ∧ i = .int .i64 k ∧ Hid (∀ i, i < k → flatX caps cloN (lo 23 loc i) (l.getD i default) = true) ∧ Hid (Below w.heap.size w wr) ∧ Hid (Below W.heap.size W wr)) (fun i _ => l.length - (intOf i).toNat)
            case atStart => exact ⟨0, Nat.zero_le _, rfl, fun i hi => by omega, HB2, HBW2⟩
            case round =>
              obtain ⟨k, hk, rfl, HS, HBR, HBRW⟩ := hrel
              have gPr := (HBRW.out.block _ (heap_lt HGP.out)).trans HGP.out
              obtain ⟨p0, p1, p2, p3⟩ := exp_box gPr
              by_cases hkl : k < l.length
              · have HFU := Lib.hid (further_any 23 n s (.slice a l.length c) k wr)
                obtain ⟨bk, hbk⟩ : ∃ bk, bindB 23 k = bk := ⟨_, rfl⟩
                have Hbk := Lib.hid hbk
                rw [hbk] at HFU
                clear hbk
                have hmem := getD_mem default l k hkl
                have HN := Lib.hid (flat_no (caps := caps) (clo := cloN) (loc := loc) (op := 23) (n := n) (s := s) (v := .slice a l.length c) k hkl)
                have HS2 := Lib.hid (fun (hx : flatX caps cloN (lo 23 loc k) (l.getD k default) = true) (i : Nat) (hi : i < k + 1) => show flatX caps cloN (lo 23 loc i) (l.getD i default) = true from by
                  by_cases e : i = k
                  · subst e; exact hx
                  · exact HS.out i (by omega))
                have HIK := Lib.hid (HIH.out _ hmem)
                have hyk := (HY.out _ hmem).under (HBR.out.mono hBw)
                have HYK := Lib.hid hyk
                have hhm := heightL_mem hmem
                have HPA := Lib.hid (fun (w3 : World) (hb : Below B w w3) => parts_at HR.out hb k hkl)
                have hlw : lo 23 loc k = loc ∨ lo 23 loc k = loc + 1 := by unfold lo bump; split <;> (try split) <;> omega
                clear hmem
                generalize l.getD k default = x at *
                obtain ⟨xo, xn, xs, xv, xl⟩ := x
                obtain ⟨xa, xc, hxv, _⟩ := hyk.parts.1
                subst hxv
                clear hyk
                cases bk
                · have hlo := lo_f (loc := loc) Hbk.out
                  rw [hlo] at HN HS2
                  go_wp2_with fail
                  refine HFU.out.mono ?_
                  rintro e w3 ⟨rfl, hb3⟩
                  have hbw3 := HBR.out.trans (hb3.mono HBR.out.size)
                  have HBW3 := Lib.hid (HBRW.out.trans (hb3.mono HBRW.out.size))
                  have gP3 := (HBW3.out.block _ (heap_lt HGP.out)).trans HGP.out
                  clear p0 p1 p2 p3
                  obtain ⟨p0, p1, p2, p3⟩ := exp_box gP3
                  obtain ⟨b, off, rfl, hbB, c0, c1, c2, c3⟩ := HPA.out w3 (hbw3.mono hBw)
                  simp only [ExpD.op, ExpD.n, ExpD.s, ExpD.lv] at c0 c1 c2 c3
                  have HM := Lib.hid (HIK.out loc w3 (by have := hbw3.size; omega) (HYK.out.under (hb3.mono (by have := HBR.out.size; omega))) hl0 (by omega))
                  rw [expV_mk] at HM
                  have HBW4 := Lib.hid hbw3
                  clear hb3 hbw3 gP3 HFU hlo
                  obtain ⟨bx, hbx⟩ : ∃ bx, flatX caps cloN loc (.mk xo xn xs (.slice xa xl.length xc) xl) = bx := ⟨_, rfl⟩
                  have Hbx := Lib.hid hbx
                  rw [hbx] at HM
                  clear hbx
                  go_wp2_with fail
                  refine HM.out.mono ?_
                  rintro e w4 ⟨rfl, hb4⟩
                  have HB5 := Lib.hid (HBW4.out.trans (hb4.mono HBW4.out.size))
                  have HB6 := Lib.hid (HBW3.out.trans (hb4.mono HBW3.out.size))
                  clear hb4 HM p0 p1 p2 p3 c0 c1 c2 c3
                  cases bx
                  · go_wp2_with fail
                    go_ret
                    exact ⟨by rw [HN.out Hbx.out]; rfl, HB5.out⟩
                  · have HS3 := Lib.hid (HS2.out Hbx.out)
                    go_wp2_with fail
                    go_roundw
                    case rel => exact ⟨k + 1, by omega, by go_num, HS3, HB5, HB6⟩
                    case measure => simp [intOf]; omega
                · have hlo := lo_t (loc := loc) Hbk.out
                  rw [hlo] at HN HS2
                  go_wp2_with fail
                  refine HFU.out.mono ?_
                  rintro e w3 ⟨rfl, hb3⟩
                  have hbw3 := HBR.out.trans (hb3.mono HBR.out.size)
                  have HBW3 := Lib.hid (HBRW.out.trans (hb3.mono HBRW.out.size))
                  have gP3 := (HBW3.out.block _ (heap_lt HGP.out)).trans HGP.out
                  clear p0 p1 p2 p3
                  obtain ⟨p0, p1, p2, p3⟩ := exp_box gP3
                  obtain ⟨b, off, rfl, hbB, c0, c1, c2, c3⟩ := HPA.out w3 (hbw3.mono hBw)
                  simp only [ExpD.op, ExpD.n, ExpD.s, ExpD.lv] at c0 c1 c2 c3
                  have HM := Lib.hid (HIK.out (loc + 1) w3 (by have := hbw3.size; omega) (HYK.out.under (hb3.mono (by have := HBR.out.size; omega))) (by omega) (by omega))
                  rw [expV_mk] at HM
                  have HBW4 := Lib.hid hbw3
                  clear hb3 hbw3 gP3 HFU hlo
                  obtain ⟨bx, hbx⟩ : ∃ bx, flatX caps cloN (loc + 1) (.mk xo xn xs (.slice xa xl.length xc) xl) = bx := ⟨_, rfl⟩
                  have Hbx := Lib.hid hbx
                  rw [hbx] at HM
                  clear hbx
                  go_wp2_with fail
                  refine HM.out.mono ?_
                  rintro e w4 ⟨rfl, hb4⟩
                  have HB5 := Lib.hid (HBW4.out.trans (hb4.mono HBW4.out.size))
                  have HB6 := Lib.hid (HBW3.out.trans (hb4.mono HBW3.out.size))
                  clear hb4 HM p0 p1 p2 p3 c0 c1 c2 c3
                  cases bx
                  · go_wp2_with fail
                    go_ret
                    exact ⟨by rw [HN.out Hbx.out]; rfl, HB5.out⟩
                  · have HS3 := Lib.hid (HS2.out Hbx.out)
                    go_wp2_with fail
                    go_roundw
                    case rel => exact ⟨k + 1, by omega, by go_num, HS3, HB5, HB6⟩
                    case measure => simp [intOf]; omega
              · have hall : ∀ i, i < l.length → flatX caps cloN (lo 23 loc i) (l.getD i default) = true := fun i hi => HS.out i (by omega)
                have HA := Lib.hid (flat_yes (v := .slice a l.length c) HFM.out hall)
                clear hall
                go_wp2_with fail
                go_ret
                exact ⟨by rw [HA.out]; rfl, HBR.out⟩
        · have z23 : ¬ op = 23 := h23
          have y23 : (op == 23) = false := beq_eq_false_iff_ne.2 h23
          have HFM := Lib.hid (show formB caps cloN loc op n s l.length = true from by rw [HFO.out]; simp [h21, h23])
          go_enter Tryz.func68, Tryz.ntmps68
          go_wp2_with fail
          refine HFL.out.mono ?_
          rintro e w2 ⟨rfl, hb2⟩
          have HB2 := Lib.hid (HB1.out.trans (hb2.mono HB1.out.size))
          have HBW2 := Lib.hid hb2
          have gP2 := (hb2.block _ (heap_lt HGP.out)).trans HGP.out
          clear hb2 p0 p1 p2 p3
          obtain ⟨p0, p1, p2, p3⟩ := exp_box gP2
          clear gP2
          go_wp2_with fail
          go_loopw [7] (fun i wr => ∃ k : Nat, k ≤ l.length ∧ i = .int .i64 k ∧ Hid (∀ i, i < k → flatX caps cloN (lo op loc i) (l.getD i default) = true) ∧ Hid (Below w.heap.size w wr) ∧ Hid (Below W.heap.size W wr)) (fun i _ => l.length - (intOf i).toNat)
          case atStart => exact ⟨0, Nat.zero_le _, rfl, fun i hi => by omega, HB2, HBW2⟩
          case round =>
            obtain ⟨k, hk, rfl, HS, HBR, HBRW⟩ := hrel
            have gPr := (HBRW.out.block _ (heap_lt HGP.out)).trans HGP.out
            obtain ⟨p0, p1, p2, p3⟩ := exp_box gPr
            by_cases hkl : k < l.length
            · have HFU := Lib.hid (further_any op n s (.slice a l.length c) k wr)
              obtain ⟨bk, hbk⟩ : ∃ bk, bindB op k = bk := ⟨_, rfl⟩
              have Hbk := Lib.hid hbk
              rw [hbk] at HFU
              clear hbk
              have hmem := getD_mem default l k hkl
              have HN := Lib.hid (flat_no (caps := caps) (clo := cloN) (loc := loc) (op := op) (n := n) (s := s) (v := .slice a l.length c) k hkl)
              have HS2 := Lib.hid (fun (hx : flatX caps cloN (lo op loc k) (l.getD k default) = true) (i : Nat) (hi : i < k + 1) => show flatX caps cloN (lo op loc i) (l.getD i default) = true from by
                by_cases e : i = k
                · subst e; exact hx
                · exact HS.out i (by omega))
              have HIK := Lib.hid (HIH.out _ hmem)
              have hyk := (HY.out _ hmem).under (HBR.out.mono hBw)
              have HYK := Lib.hid hyk
              have hhm := heightL_mem hmem
              have HPA := Lib.hid (fun (w3 : World) (hb : Below B w w3) => parts_at HR.out hb k hkl)
              have hlw : lo op loc k = loc ∨ lo op loc k = loc + 1 := by unfold lo bump; split <;> (try split) <;> omega
              clear hmem
              generalize l.getD k default = x at *
              obtain ⟨xo, xn, xs, xv, xl⟩ := x
              obtain ⟨xa, xc, hxv, _⟩ := hyk.parts.1
              subst hxv
              clear hyk
              cases bk
              · have hlo := lo_f (loc := loc) Hbk.out
                rw [hlo] at HN HS2
                go_wp2_with fail
                refine HFU.out.mono ?_
                rintro e w3 ⟨rfl, hb3⟩
                have hbw3 := HBR.out.trans (hb3.mono HBR.out.size)
                have HBW3 := Lib.hid (HBRW.out.trans (hb3.mono HBRW.out.size))
                have gP3 := (HBW3.out.block _ (heap_lt HGP.out)).trans HGP.out
                clear p0 p1 p2 p3
                obtain ⟨p0, p1, p2, p3⟩ := exp_box gP3
                obtain ⟨b, off, rfl, hbB, c0, c1, c2, c3⟩ := HPA.out w3 (hbw3.mono hBw)
                simp only [ExpD.op, ExpD.n, ExpD.s, ExpD.lv] at c0 c1 c2 c3
                have HM := Lib.hid (HIK.out loc w3 (by have := hbw3.size; omega) (HYK.out.under (hb3.mono (by have := HBR.out.size; omega))) hl0 (by omega))
                rw [expV_mk] at HM
                have HBW4 := Lib.hid hbw3
                clear hb3 hbw3 gP3 HFU hlo
                obtain ⟨bx, hbx⟩ : ∃ bx, flatX caps cloN loc (.mk xo xn xs (.slice xa xl.length xc) xl) = bx := ⟨_, rfl⟩
                have Hbx := Lib.hid hbx
                rw [hbx] at HM
                clear hbx
                go_wp2_with fail
                refine HM.out.mono ?_
                rintro e w4 ⟨rfl, hb4⟩
                have HB5 := Lib.hid (HBW4.out.trans (hb4.mono HBW4.out.size))
                have HB6 := Lib.hid (HBW3.out.trans (hb4.mono HBW3.out.size))
                clear hb4 HM p0 p1 p2 p3 c0 c1 c2 c3
                cases bx
                · go_wp2_with fail
                  go_ret
                  exact ⟨by rw [HN.out Hbx.out]; rfl, HB5.out⟩
                · have HS3 := Lib.hid (HS2.out Hbx.out)
                  go_wp2_with fail
                  go_roundw
                  case rel => exact ⟨k + 1, by omega, by go_num, HS3, HB5, HB6⟩
                  case measure => simp [intOf]; omega
              · have hlo := lo_t (loc := loc) Hbk.out
                rw [hlo] at HN HS2
                go_wp2_with fail
                refine HFU.out.mono ?_
                rintro e w3 ⟨rfl, hb3⟩
                have hbw3 := HBR.out.trans (hb3.mono HBR.out.size)
                have HBW3 := Lib.hid (HBRW.out.trans (hb3.mono HBRW.out.size))
                have gP3 := (HBW3.out.block _ (heap_lt HGP.out)).trans HGP.out
                clear p0 p1 p2 p3
                obtain ⟨p0, p1, p2, p3⟩ := exp_box gP3
                obtain ⟨b, off, rfl, hbB, c0, c1, c2, c3⟩ := HPA.out w3 (hbw3.mono hBw)
                simp only [ExpD.op, ExpD.n, ExpD.s, ExpD.lv] at c0 c1 c2 c3
                have HM := Lib.hid (HIK.out (loc + 1) w3 (by have := hbw3.size; omega) (HYK.out.under (hb3.mono (by have := HBR.out.size; omega))) (by omega) (by omega))
                rw [expV_mk] at HM
                have HBW4 := Lib.hid hbw3
                clear hb3 hbw3 gP3 HFU hlo
                obtain ⟨bx, hbx⟩ : ∃ bx, flatX caps cloN (loc + 1) (.mk xo xn xs (.slice xa xl.length xc) xl) = bx := ⟨_, rfl⟩
                have Hbx := Lib.hid hbx
                rw [hbx] at HM
                clear hbx
                go_wp2_with fail
                refine HM.out.mono ?_
                rintro e w4 ⟨rfl, hb4⟩
                have HB5 := Lib.hid (HBW4.out.trans (hb4.mono HBW4.out.size))
                have HB6 := Lib.hid (HBW3.out.trans (hb4.mono HBW3.out.size))
                clear hb4 HM p0 p1 p2 p3 c0 c1 c2 c3
                cases bx
                · go_wp2_with fail
                  go_ret
                  exact ⟨by rw [HN.out Hbx.out]; rfl, HB5.out⟩
                · have HS3 := Lib.hid (HS2.out Hbx.out)
                  go_wp2_with fail
                  go_roundw
                  case rel => exact ⟨k + 1, by omega, by go_num, HS3, HB5, HB6⟩
                  case measure => simp [intOf]; omega
            · have hall : ∀ i, i < l.length → flatX caps cloN (lo op loc i) (l.getD i default) = true := fun i hi => HS.out i (by omega)
              have HA := Lib.hid (flat_yes (v := .slice a l.length c) HFM.out hall)
              clear hall
              go_wp2_with fail
              go_ret
              exact ⟨by rw [HA.out]; rfl, HBR.out⟩
end Go.Proofs.YtidolpcbbbakmaaGreat
