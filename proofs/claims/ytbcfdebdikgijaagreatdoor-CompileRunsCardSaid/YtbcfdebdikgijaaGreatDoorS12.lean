/- Part of the proof; its texts: Cr4. -/
import Derived.Test.YtbcfdebdikgijaaGreatDoorS11
set_option maxRecDepth 100000
set_option linter.unusedVariables false
set_option linter.unusedSimpArgs false
set_option maxHeartbeats 4000000
namespace Go.Proofs.YtbcfdebdikgijaaGreatDoor
open Go Go.RowKit
theorem CU (k : Nat) (q : Nat -> Bool) (h : (List.range k).all q = true) (hq : q k = true) : (List.range (k + 1)).all q = true := by
 rw [List.range_succ, List.all_append, h]; simp [hq]
theorem zD (n k : Nat) (q : Nat -> Bool) (hk : k < n) (hq : q k = false) : (List.range n).all q = false := by
 rw [List.all_eq_false]; exact ⟨k, by simpa using hk, by simp [hq]⟩
theorem CS (p : Zz) (f : WU) : Vs p f = (List.range f.code.length).all fun k => Uw p.texts.length p.Zu f.c f.l f.code k := rfl
theorem qD (p : Zz) (h : Y7 p.main 0 ((p.Zu.length : Int) - 1) = false) : RX p = false := by unfold RX; rw [h]; rfl
theorem qC (p : Zz) (h : Y7 p.main 0 ((p.Zu.length : Int) - 1) = true) (n : Nat) (hn : p.main = n) : RX p = ((p.Zu.getD n default).c == 0) := by unfold RX; rw [h, hn]; simp only [Int.toNat_natCast, Bool.true_and]; exact (Bu _ _).symm
theorem Oy (f : WU) (h : Ta f = false) : Vr f = true := by unfold Vr; rw [h]; rfl
theorem zC (f : WU) (h : Ta f = true) : Vr f = false := by unfold Vr; rw [h]; rfl
theorem CQ (p : Zz) (f : WU) (h : Vs p f = false) : Xb p f = true := by unfold Xb; rw [h]; rfl
theorem FK (p : Zz) (f : WU) (h : Vs p f = true) : Xb p f = false := by unfold Xb; rw [h]; rfl
theorem Vj {w : World} {v : Value} {l : List ByteArray} (h : Xv w v l) (n : Nat) (hn : n < l.length) :
 ∃ b off c, v = .slice (some ⟨b, off, none⟩) l.length c /\ l.length <= c /\ b < w.heap.size /\ w.cell? ⟨b, off + n, none⟩ = some (.string (l.getD n default)) := by
 obtain ⟨a, c, rfl, hlc, hcell⟩ := h
 obtain ⟨b, off, rfl, hlt, hc⟩ := hcell (by omega)
 exact ⟨b, off, c, rfl, hlc, hlt, by rw [hc n (by rw [strCells_length]; exact hn), GL l n hn]⟩
theorem AU (p : Zz) (h : RX p = false) : Wu p = false := by unfold Wu; rw [h]; simp
theorem JM (p : Zz) (h0 : Y7 (p.Zu.length : Int) 1 4096 = true) (h1 : p.texts.length <= 1000) (h2 : p.texts.any Vm = false) (h3 : p.Zu.any Vr = false) (h4 : p.Zu.any (Xb p) = false) (hm : RX p = true) : Wu p = true := by
 rw [wU p h0 h1 h2 h3 h4]; exact hm
theorem Lu (s : ByteArray) : Vm s = !VJ s := rfl
theorem CP (fv tv : Value) (p : Zz) (w : World) (h : Rp w fv tv p) (hfl : p.Zu.length <= 1000000) (htl : p.texts.length <= 1000000) :
 Calls Tryz.prog 10 #[.agg #[fv, tv, .int .i64 p.main]] w (qU p w) := by
 have Hp := Z9 h
 obtain ⟨⟨⟨fa, fc, rfl, hfc, _⟩, _⟩, ⟨ta, tc, rfl, htc, _⟩⟩ := h
 obtain ⟨fs, ts, main⟩ := p
 simp only at hfl htl hfc htc ⊢
 have Hf : Hid (Tc w (.slice fa fs.length fc) fs) := Hp.out.1
 have Ht : Hid (Xv w (.slice ta ts.length tc) ts) := Hp.out.2
 clear Hp
 have hs0 : Below w.heap.size w (w.alloc (.cells #[.slice fa fs.length fc, .slice ta ts.length tc, .int .i64 main] 29)) := (Below.refl _ _).alloc (Nat.le_refl _) _
 have g0 : ∀ o v, (#[Value.slice fa fs.length fc, .slice ta ts.length tc, .int .i64 main] : Array Value)[o]? = some v -> (w.alloc (.cells #[.slice fa fs.length fc, .slice ta ts.length tc, .int .i64 main] 29)).cell? ⟨w.heap.size, o, none⟩ = some v := fun o v hv => by rw [Ph]; exact hv
 have hs1 : (w.alloc (.cells #[.slice fa fs.length fc, .slice ta ts.length tc, .int .i64 main] 29)).heap.size = w.heap.size + 1 := by simp
 have p0 := g0 0 _ rfl
 have p1 := g0 1 _ rfl
 have p2 := g0 2 _ rfl
 obtain ⟨q0, h0⟩ : ∃ q, Y7 (fs.length : Int) 1 4096 = q := ⟨_, rfl⟩
 have H0 := Z9 h0
 clear h0
 go_in
 go_wp2_with fail
 generalize w.alloc (.cells #[.slice fa fs.length fc, .slice ta ts.length tc, .int .i64 main] 29) = W0 at *
 refine (XC _ _ _ _).mono ?_
 rintro e w' ⟨rfl, rfl⟩
 rw [H0.out]
 cases q0
 ·go_wp2
  go_ret; exact ⟨by rw [wY _ H0.out]; rfl, hs0⟩
 by_cases h1 : 1000 < ts.length
 ·have Hb := Z9 (wX ⟨fs, ts, main⟩ (by simp only; omega))
  go_wp2; go_ret; exact ⟨by rw [Hb.out]; rfl, hs0⟩
 have H1 : Hid (ts.length <= 1000) := by show _ <= _; omega
 have h1f : ((1000 : Int) < (ts.length : Int)) = False := eq_false (by omega)
 clear h1
 go_wp2_with fail
 refine (XC _ _ _ _).mono ?_
 rintro e w' ⟨rfl, rfl⟩
 obtain ⟨q, hq⟩ : ∃ q, Y7 main 0 ((fs.length : Int) - 1) = q := ⟨_, rfl⟩
 have Q := Z9 hq
 rw [hq]
 cases q
 ·have Hb := Z9 (AU ⟨fs, ts, main⟩ (qD _ Q.out))
  clear hq; go_wp2; go_ret; exact ⟨by rw [Hb.out]; rfl, hs0⟩
 have hx0 : 0 <= main /\ main <= (fs.length : Int) - 1 := by simpa [Y7] using hq
 clear hq
 obtain ⟨n, rfl⟩ := Int.eq_ofNat_of_zero_le hx0.1
 have hn : n < fs.length := by omega
 obtain ⟨b0, iG, fc0, fd0, _, aae, c00, _⟩ := Hf.out.at' n hn
 obtain rfl := (Value.slice.inj fd0).1
 have d00 := (hs0.cell (p := ⟨b0, iG + n * 4, none⟩) aae).trans c00
 have Hm : Hid (RX ⟨fs, ts, n⟩ = ((fs.getD n default).c == 0)) := qC _ Q.out n rfl
 generalize (fs.getD n default).c = cf at *
 clear c00 fd0
 cases hcf : (cf == 0)
 ·have Hb := Z9 (AU ⟨fs, ts, n⟩ (Hm.out.trans hcf))
  go_wp2; go_ret; exact ⟨by rw [Hb.out]; rfl, hs0⟩
 have HM : Hid (RX ⟨fs, ts, n⟩ = true) := Hm.out.trans hcf
 obtain rfl : cf = 0 := by simpa using hcf
 have iF : Hid (∀ s w, Calls Tryz.prog 27 #[.string s] w fun e w' => e = .returned (.bool (VJ s)) /\ w = w') := Gy
 go_wp2_with fail
 clear d00 hx0 hcf Hm
 go_loop [3] (fun i => ∃ k : Nat, k <= ts.length /\ i = .int .i64 k /\ Hid ((ts.take k).any Vm = false)) (fun i => ts.length - (intOf i).toNat)
 case atStart => exact ⟨0, Nat.zero_le _, rfl, rfl⟩
 case round =>
  obtain ⟨k, hk, rfl, hno⟩ := hrel; by_cases hkl : k < ts.length
  ·obtain ⟨b, off, tc', fd, _, hbl, c0⟩ := Vj Ht.out k hkl
   obtain rfl := (Value.slice.inj fd).1; have d0 := (hs0.cell (p := ⟨b, off + k, none⟩) hbl).trans c0; have Hn := Z9 (TY default ts Vm k hkl hno.out); have Hy := Z9 (Sw default ts Vm k hkl); clear c0 fd; generalize ts.getD k default = s at *; go_wp2_with fail; refine (iF.out s _).mono ?_; rintro e w' ⟨rfl, rfl⟩; obtain ⟨bb, hbb⟩ : ∃ bb, VJ s = bb := ⟨_, rfl⟩; have VU := Z9 hbb; rw [hbb]; clear hbb; cases bb
   ·have Hb := Z9 (wW ⟨fs, ts, n⟩ (Hy.out (by rw [Lu, VU.out]; rfl)))
    go_wp2; go_ret; exact ⟨by rw [Hb.out]; rfl, hs0⟩
   ·have hN : Hid ((ts.take (k + 1)).any Vm = false) := Hn.out (by rw [Lu, VU.out]; rfl)
    go_wp2_with fail; go_round
    case rel => exact ⟨k + 1, by omega, by go_num, hN⟩
    case measure => simp [intOf]; omega
  ·have H2 : Hid (ts.any Vm = false) := by
    show _ = _
    have := hno.out; rw [List.take_of_length_le (by omega)] at this; exact this
   have G1 := Z9 g0; have hb01 := hs0; clear hno g0 p2; go_wp2_with fail; clear p1; go_loopw [4] (fun i wr => (∃ k : Nat, k <= fs.length /\ i = .int .i64 k /\ Hid ((fs.take k).any Vr = false) /\ Hid ((fs.take k).any (Xb ⟨fs, ts, n⟩) = false)) /\ Below (w.heap.size + 1) W0 wr) (fun i _ => fs.length - (intOf i).toNat)
   case atStart => exact ⟨⟨0, Nat.zero_le _, rfl, rfl, rfl⟩, Below.refl _ _⟩
   case round =>
    rename World => V2
    clear p0; obtain ⟨⟨k, hk, rfl, lU, hno⟩, hbr⟩ := hrel; have hbw : Below w.heap.size w V2 := hb01.trans (hbr.mono (by omega)); have hsz := hbr.size; have p0 : V2.cell? ⟨w.heap.size, 0, none⟩ = _ := (hbr.cell (p := ⟨w.heap.size, 0, none⟩) (Nat.lt_succ_self _)).trans (G1.out 0 _ rfl); by_cases hkl : k < fs.length
    ·obtain ⟨b, off, fc', fd, _, hbl, c0, c1, c2, c3⟩ := Hf.out.at' k hkl
     have fd1 : b = b0 /\ off = iG := by have := (Value.slice.inj fd).1; cases this; exact ⟨rfl, rfl⟩
     obtain ⟨rfl, rfl⟩ := fd1; have d0 := (hbw.cell (p := ⟨b, off + k * 4, none⟩) hbl).trans c0; have d1 := (hbw.cell (p := ⟨b, off + k * 4 + 1, none⟩) hbl).trans c1; have d2 := (hbw.cell (p := ⟨b, off + k * 4 + 2, none⟩) hbl).trans c2; have d3 := (hbw.cell (p := ⟨b, off + k * 4 + 3, none⟩) hbl).trans c3; have hcode := Hf.out.2 _ (Zr default fs k hkl); clear c0 c1 c2 c3 fd; have Hnh := Z9 (TY default fs Vr k hkl lU.out); have bS := Z9 (Sw default fs Vr k hkl); have Hn := Z9 (TY default fs (Xb ⟨fs, ts, n⟩) k hkl hno.out); have Hy := Z9 (Sw default fs (Xb ⟨fs, ts, n⟩) k hkl); generalize fs.getD k default = f at *; obtain ⟨c, l, d, v, code⟩ := f; have iE : Hid (VE w v code) := hcode; obtain ⟨ca, cc, hv, hcc, _⟩ := hcode; simp only at hv d0 d1 d2 d3 hcc; subst hv; have hbx : Below w.heap.size w (V2.alloc (.cells #[.int .i64 c, .int .i64 l, .int .i64 d, .slice ca code.length cc] 53)) := hbw.alloc hbw.size _; have hby : Below (w.heap.size + 1) W0 (V2.alloc (.cells #[.int .i64 c, .int .i64 l, .int .i64 d, .slice ca code.length cc] 53)) := hbr.alloc (by omega) _; have g2 : (V2.alloc (.cells #[.int .i64 c, .int .i64 l, .int .i64 d, .slice ca code.length cc] 53)).heap[V2.heap.size]? = some (.cells #[.int .i64 c, .int .i64 l, .int .i64 d, .slice ca code.length cc] 53 (0, 0)) := ZV V2 _; have hsw : (V2.alloc (.cells #[.int .i64 c, .int .i64 l, .int .i64 d, .slice ca code.length cc] 53)).heap.size = V2.heap.size + 1 := by simp
     obtain ⟨q0', q1', q2', q3'⟩ := WQ g2; have Hrs : Hid (Vs ⟨fs, ts, n⟩ ⟨c, l, d, .slice ca code.length cc, code⟩ = (List.range code.length).all fun k => Uw ts.length fs c l code k) := CS _ _; have iD : Hid (∀ v, Ta ⟨c, l, d, v, code⟩ = (Y7 c 0 1000 && (Y7 l 1 4096 && (Y7 d 0 4096 && Y7 (code.length : Int) 1 16384)))) := fun _ => rfl
     obtain ⟨r0, hr0⟩ : ∃ q, Y7 c 0 1000 = q := ⟨_, rfl⟩; obtain ⟨r1, hr1⟩ : ∃ q, Y7 l 1 4096 = q := ⟨_, rfl⟩; obtain ⟨r2, hr2⟩ : ∃ q, Y7 d 0 4096 = q := ⟨_, rfl⟩; obtain ⟨r3, hr3⟩ : ∃ q, Y7 (code.length : Int) 1 16384 = q := ⟨_, rfl⟩; have R0 := Z9 hr0; have R1 := Z9 hr1; have R2 := Z9 hr2; have R3 := Z9 hr3; clear hr0 hr1 hr2 hr3; go_wp2_with fail; generalize V2.alloc (.cells #[.int .i64 c, .int .i64 l, .int .i64 d, .slice ca code.length cc] 53) = W2 at *; clear d0 d1 d2 d3 p0; refine (XC _ _ _ _).mono ?_; rintro e w' ⟨rfl, rfl⟩; rw [R0.out]; cases r0
     ·go_wp2
      go_ret; exact ⟨by rw [O1 _ (bS.out (Oy _ (by rw [iD.out, R0.out]; rfl)))]; rfl, hbx⟩
     go_wp2_with fail; refine (XC _ _ _ _).mono ?_; rintro e w' ⟨rfl, rfl⟩; rw [R1.out]; cases r1
     ·go_wp2
      go_ret; exact ⟨by rw [O1 _ (bS.out (Oy _ (by rw [iD.out, R0.out, R1.out]; rfl)))]; rfl, hbx⟩
     go_wp2_with fail; refine (XC _ _ _ _).mono ?_; rintro e w' ⟨rfl, rfl⟩; rw [R2.out]; cases r2
     ·go_wp2
      go_ret; exact ⟨by rw [O1 _ (bS.out (Oy _ (by rw [iD.out, R0.out, R1.out, R2.out]; rfl)))]; rfl, hbx⟩
     go_wp2_with fail; refine (XC _ _ _ _).mono ?_; rintro e w' ⟨rfl, rfl⟩; rw [R3.out]; cases r3
     ·go_wp2
      go_ret; exact ⟨by rw [O1 _ (bS.out (Oy _ (by rw [iD.out, R0.out, R1.out, R2.out, R3.out]; rfl)))]; rfl, hbx⟩
     have hNh : Hid ((fs.take (k + 1)).any Vr = false) := Hnh.out (zC _ (by rw [iD.out, R0.out, R1.out, R2.out, R3.out]; rfl)); have hb0 : 0 <= c /\ c <= 1000 := by have := R0.out; simpa [Y7] using this
     have hb1 : 1 <= l /\ l <= 4096 := by have := R1.out; simpa [Y7] using this
     have hb3 : code.length <= 16384 := by have := R3.out; simp [Y7] at this; omega
     go_wp2_with fail; go_loopw [6] (fun i wr => (∃ j : Nat, j <= code.length /\ i = .int .i64 j /\ Hid ((List.range j).all (fun k => Uw ts.length fs c l code k) = true)) /\ Below (V2.heap.size + 1) W2 wr) (fun i _ => code.length - (intOf i).toNat)
     case atStart => exact ⟨⟨0, Nat.zero_le _, rfl, rfl⟩, Below.refl _ _⟩
     case round =>
      obtain ⟨⟨j, hj, rfl, hall⟩, Ox⟩ := hrel; have wT := Ox.size; have qB : Below (w.heap.size + 1) W0 wr := hby.trans (Ox.mono (by omega)); have lT : Below w.heap.size w wr := hbx.trans (Ox.mono (by omega)); have g3 := (Ox.block V2.heap.size (Nat.lt_succ_self _)).trans g2; obtain ⟨e0, e1, e2, e3⟩ := WQ g3; by_cases hjl : j < code.length
      ·have p0 : wr.cell? ⟨w.heap.size, 0, none⟩ = _ := (qB.cell (p := ⟨w.heap.size, 0, none⟩) (Nat.lt_succ_self _)).trans (G1.out 0 _ rfl)
       have p1 : wr.cell? ⟨w.heap.size, 1, none⟩ = _ := (qB.cell (p := ⟨w.heap.size, 1, none⟩) (Nat.lt_succ_self _)).trans (G1.out 1 _ rfl); have p2 : wr.cell? ⟨w.heap.size, 2, none⟩ = _ := (qB.cell (p := ⟨w.heap.size, 2, none⟩) (Nat.lt_succ_self _)).trans (G1.out 2 _ rfl); have Hy3 := Z9 (zD code.length j (fun k => Uw ts.length fs c l code k) hjl); have Hn3 := Z9 (CU j (fun k => Uw ts.length fs c l code k) hall.out); have HR := Z9 (CV _ fs ta ts.length tc n c l d _ code j wr (Tc.below Hf.out lT) (by omega) (by omega) hb0.1 hb0.2 hb1.1 hb1.2 (Xe.below iE.out lT) (by omega) hjl); go_wp2_with fail; refine HR.out.mono ?_; rintro e w' ⟨rfl, hb4⟩; have aaf : Below (V2.heap.size + 1) W2 w' := Ox.trans (hb4.mono (by omega)); have XA : Below w.heap.size w w' := lT.trans (hb4.mono (by omega)); obtain ⟨q, hq⟩ : ∃ q, Uw ts.length fs c l code j = q := ⟨_, rfl⟩; have Q := Z9 hq; rw [hq]; clear hq HR; cases q
       ·go_wp2
        go_ret; exact ⟨by rw [wV _ (Hy.out (CQ _ _ (by rw [Hrs.out]; exact Hy3.out Q.out)))]; rfl, XA⟩
       ·have hN : Hid ((List.range (j + 1)).all (fun k => Uw ts.length fs c l code k) = true) := Hn3.out Q.out
        go_wp2_with fail; go_round
        case rel => exact ⟨⟨j + 1, by omega, by go_num, hN⟩, aaf⟩
        case measure => simp [intOf]; omega
      ·have hje : j = code.length := by omega
       have hN : Hid ((fs.take (k + 1)).any (Xb ⟨fs, ts, n⟩) = false) := Hn.out (FK _ _ (by rw [Hrs.out, <- hje]; exact hall.out)); go_wp2_with fail; go_round
       case rel => exact ⟨⟨k + 1, by omega, by go_num, hNh, hN⟩, qB⟩
       case measure => simp [intOf]; omega
    ·have hr : fs.any (Xb ⟨fs, ts, n⟩) = false := by
      have := hno.out; rw [List.take_of_length_le (by omega)] at this; exact this
     have hh : fs.any Vr = false := by
      have := lU.out; rw [List.take_of_length_le (by omega)] at this; exact this
     have Hv : Hid (Wu ⟨fs, ts, n⟩ = true) := JM _ H0.out H1.out H2.out hh hr HM.out; clear hr hh hno lU; go_wp2; go_ret; exact ⟨by rw [Hv.out]; rfl, hbw⟩
end Go.Proofs.YtbcfdebdikgijaaGreatDoor
