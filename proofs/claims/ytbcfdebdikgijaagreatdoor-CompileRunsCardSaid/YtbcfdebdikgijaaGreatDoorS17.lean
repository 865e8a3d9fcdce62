/- Part of the proof; its texts: Cu2 Cu3 Cu4 Cu5 Cu6 Cu7 Cu8. -/
import Derived.Test.YtbcfdebdikgijaaGreatDoorS16
import Derived.Deep.RegionLawGrows
import Derived.Lib.SlicesS
set_option maxRecDepth 100000
set_option linter.unusedVariables false
set_option linter.unusedSimpArgs false
set_option maxHeartbeats 8000000
namespace Go.Proofs.YtbcfdebdikgijaaGreatDoor
open Go Go.RowKit
open Go.Maps
def WI (n _ : Int) : Bool := decide (0 <= n)
theorem uK (caps loc op n : Int) (s : ByteArray) (k : Nat) : Zy caps WI loc op n s k = (YH op n s k && (!(decide (op = 21) && decide (loc <= n)) && !(decide (op = 23) && decide (caps <= n)))) := by
 by_cases h : op = 2 \/ op = 3 \/ op = 6 \/ op = 7 \/ op = 8 \/ op = 9 \/ op = 11 \/ op = 12 \/ op = 13 \/ op = 21 \/ op = 22 \/ op = 23 \/ op = 24 \/ op = 25
 ·by_cases h3 : op = 3
  ·subst h3
   rw [Bd (.inl rfl), AJ]; simp
  ·by_cases hs : s.size = 0
   ·rcases h with rfl | rfl | rfl | rfl | rfl | rfl | rfl | rfl | rfl | rfl | rfl | rfl | rfl | rfl
    ·rw [Bf (.inr hs), IX]; simp [hs]
    ·exact absurd rfl h3
    ·rw [Bc (.inr hs), IW]; simp [hs]
    ·rw [Bb (.inr hs), IV]; simp [hs]
    ·rw [Ba (.inr hs), IU]; simp [hs]
    ·rw [A9 (.inr hs), IQ]; simp [hs]
    ·rw [Gl (.inr hs), Le]; simp [hs, Bool.and_comm]
    ·rw [Gi (.inr hs), Ld]; simp [hs]
    ·rw [Gh (.inr hs), Lc]; simp [hs]
    ·rw [Gg (.inr hs), Lj, Bool.eq_iff_iff]; simp [hs, Y7]; omega
    ·rw [Gf (.inr hs), Lh]; simp [hs]
    ·rw [Gd (.inr hs), Li, Bool.eq_iff_iff]; simp [hs, Y7]; omega
    ·rw [QT (.inr hs), Lg]; simp [hs, WI]
    ·rw [Gj (.inr hs), Lf]; simp [hs, Bool.and_comm]
   ·rw [Mt h3 hs]
    rcases h with rfl | rfl | rfl | rfl | rfl | rfl | rfl | rfl | rfl | rfl | rfl | rfl | rfl | rfl
    ·rw [IX]; simp [hs]
    ·exact absurd rfl h3
    ·rw [IW]; simp [hs]
    ·rw [IV]; simp [hs]
    ·rw [IU]; simp [hs]
    ·rw [IQ]; simp [hs]
    ·rw [Le]; simp [hs]
    ·rw [Ld]; simp [hs]
    ·rw [Lc]; simp [hs]
    ·rw [Lj]; simp [hs]
    ·rw [Lh]; simp [hs]
    ·rw [Li]; simp [hs]
    ·rw [Lg]; simp [hs]
    ·rw [Lf]; simp [hs]
 ·rw [Gc h, Fy h]; rfl
theorem QL (op n : Int) (s : ByteArray) (v : Value) (part : Int) (w : World) : Calls Tryz.prog 96 #[.agg #[.int .i64 op, .int .i64 n, .string s, v], .int .i64 part] w (Yn (Uy op part) w) := by
 have hb := YP op n s v w
 by_cases hp : 0 < part
 ·have Hp := Z9 (decide_eq_true hp)
  by_cases h11 : op = 11
  ·subst h11
   go_in; go_wp2; go_ret; exact ⟨by unfold Uy; rw [Hp.out]; rfl, hb⟩
  ·have y11 : (op == 11) = false := Zt h11
   by_cases h9 : op = 9
   ·subst h9
    go_in; go_wp2; go_ret; exact ⟨by unfold Uy; rw [Hp.out]; rfl, hb⟩
   ·have y9 : (op == 9) = false := Zt h9
    have Hz : Hid (Uy op part = false) := by unfold Uy; rw [y11, y9]; rfl
    go_in; go_wp2; go_ret; exact ⟨by rw [Hz.out]; rfl, hb⟩
 ·have Hz := Z9 (show Uy op part = false from by unfold Uy; rw [YR hp]; simp)
  go_in; go_wp2; go_ret; exact ⟨by rw [Hz.out]; rfl, hb⟩
def Iy (x : Z0) (w : World) (e : Ending) (w' : World) : Prop := e = .returned (.int .i64 (YO x)) /\ Below w.heap.size w w'
theorem ze (B : Nat) (x : Z0) : ∀ (w : World) (left depth : Nat), B <= w.heap.size -> Y0 B w x -> YO x <= left -> left <= 100000 -> depth + Y5 x <= 401 -> Calls Tryz.prog 74 #[Ws x, .int .i64 left, .int .i64 depth] w (Iy x w) := by
 induction x using Z0.induct with
 | h op n s lv l ih =>
   intro w left depth hBw hx hsz hlf hd; rw [ZE]; have SC := Z9 ih; obtain ⟨hr, hm, hy⟩ := hx.parts; rw [Wv] at hsz; rw [WX] at hd; have hll := length_le l; have HY := Z9 hy; have HR := Z9 hr; obtain ⟨a, c, rfl, hlc, _⟩ := hr; have hb1 := YP op n s (.slice a l.length c) w; have gP := ZV w (.cells #[.int .i64 op, .int .i64 n, .string s, .slice a l.length c] 36); have WO := Z9 gP; have hd0 : ¬ (400 : Int) < (depth : Int) := by omega
   clear ih hx hy gP hm; go_in; go_wp2_with fail; generalize w.alloc (.cells #[.int .i64 op, .int .i64 n, .string s, .slice a l.length c] 36) = W at *; have hBW := Below.refl W.heap.size W; go_loopw [7, 8] (fun m i wr => ∃ (k ms : Nat), k <= l.length /\ i = .int .i64 k /\ m = .int .i64 ms /\ Hid (ms = Yv (l.take k) + 1) /\ Below w.heap.size w wr /\ Below W.heap.size W wr) (fun _ i _ => l.length - (intOf i).toNat)
   case atStart => exact ⟨0, 1, Nat.zero_le _, rfl, rfl, show 1 = Yv (l.take 0) + 1 from by rw [List.take_zero, VP], hb1, hBW⟩
   case round =>
    obtain ⟨k, ms, hk, rfl, rfl, HS, hbr, hbW⟩ := hrel; have hst := V8 l k; have hms := HS.out; have Qd := (hbW.block _ (Z6 WO.out)).trans WO.out; obtain ⟨p0, p1, p2, p3⟩ := ZP Qd; by_cases hkl : k < l.length
    ·obtain ⟨b, off, rfl, Rx, c0, c1, c2, c3⟩ := XY HR.out (hbr.mono hBw) k hkl
     have hmem := Zr default l k hkl; have hT := take_one default l k hkl; have hT1 : Yv (l.take (k + 1)) = Yv (l.take k) + YO (l.getD k default) := by rw [hT, VB]
     have hyk := HY.out _ hmem; have hih := SC.out _ hmem; have hT2 := V8 l (k + 1); have hhm := Xd hmem; clear hT hmem; generalize l.getD k default = x at *; have hpx := U6 x; obtain ⟨xo, xn, xs, xv, xl⟩ := x; obtain ⟨xa, xc, rfl, _⟩ := hyk.parts.1; simp only [Z0.op, Z0.n, Z0.s, Z0.lv] at c0 c1 c2 c3; have HM := Z9 (hih wr (left - ms) (depth + 1) (by have := hbr.size; omega) (hyk.under (hbr.mono hBw)) (by omega) (by omega) (by omega)); rw [ZE] at HM; generalize hsx : YO (.mk xo xn xs (.slice xa xl.length xc) xl) = sx at *; unfold Iy at HM; rw [hsx] at HM; have hlt : ms < left := by omega
     have hsub : ((left - ms : Nat) : Int) = (left : Int) - (ms : Int) := by omega
     have hdd : ((depth + 1 : Nat) : Int) = (depth : Int) + 1 := by omega
     rw [hsub, hdd] at HM; have HS2 : Hid (ms + sx = Yv (l.take (k + 1)) + 1) := show ms + sx = _ from by omega
     have ab' : ms + sx <= left := by omega
     clear hih hyk hst hms hT1 hT2 hsub hdd; go_wp2_with fail; refine HM.out.mono ?_; rintro e w2 ⟨rfl, hb4⟩; have hbe := hbr.trans (hb4.mono hbr.size); have Dm := hbW.trans (hb4.mono hbW.size); clear hb4 c0 c1 c2 c3 p0 p1 p2 p3 HM; go_wp2_with fail; go_roundw
     case rel => exact ⟨k + 1, ms + sx, by omega, by go_num, by go_num, HS2, hbe, Dm⟩
     case measure => simp [intOf]; omega
    ·go_wp2
     go_ret; have := HS.out; rw [List.take_of_length_le (by omega)] at this; refine ⟨?_, hbr⟩; rw [Wv, <- this]; rfl
theorem uJ (B : Nat) (caps : Int) (x : Z0) : ∀ (loc : Int) (w : World), B <= w.heap.size -> Y0 B w x -> 0 <= loc -> loc + Y5 x <= 1000000 ->
 Calls Tryz.prog 75 #[Ws x, .int .i64 caps, .int .i64 loc] w (Yn (ZI caps WI loc x) w) := by
 induction x using Z0.induct with
 | h op n s lv l ih =>
   intro loc w hBw hx hl0 hl1; rw [ZE]; have SC := Z9 ih; obtain ⟨hr, hm, hy⟩ := hx.parts; have HY := Z9 hy; have HR := Z9 hr; have hm' : l.length <= 9223372036854775807 := by unfold maxLen at hm; omega
   rw [WX] at hl1; obtain ⟨a, c, rfl, hlc, _⟩ := hr; have hb1 := YP op n s (.slice a l.length c) w; have gP := ZV w (.cells #[.int .i64 op, .int .i64 n, .string s, .slice a l.length c] 36); obtain ⟨p0, p1, p2, p3⟩ := ZP gP; have WO := Z9 gP; have rA := Z9 (zh op n s a l.length c (w.alloc (.cells #[.int .i64 op, .int .i64 n, .string s, .slice a l.length c] 36))); have P6 := Z9 (uK caps loc op n s l.length); have HB1 := Z9 hb1; clear ih hx hy gP hm hb1; obtain ⟨bf, hbf⟩ : ∃ bf, YH op n s l.length = bf := ⟨_, rfl⟩; rw [hbf] at rA P6; clear hbf; generalize hW : w.alloc (.cells #[.int .i64 op, .int .i64 n, .string s, .slice a l.length c] 36) = W at *; cases bf
   ·have HF : Hid (ZI caps WI loc (.mk op n s (.slice a l.length c) l) = false) := OH (by rw [P6.out]; rfl)
    go_in; go_wp2_with fail; refine rA.out.mono ?_; rintro e w2 ⟨rfl, hb2⟩; have HB2 := Z9 (HB1.out.trans (hb2.mono HB1.out.size)); have Fj := Z9 hb2; have gP2 := (hb2.block _ (Z6 WO.out)).trans WO.out; clear hb2 p0 p1 p2 p3; obtain ⟨p0, p1, p2, p3⟩ := ZP gP2; clear gP2; go_wp2; go_ret; exact ⟨by rw [HF.out]; rfl, HB2.out⟩
   ·by_cases h21 : op = 21
    ·subst h21
     by_cases hn : loc <= n
     ·have HF : Hid (ZI caps WI loc (.mk 21 n s (.slice a l.length c) l) = false) := OH (by rw [P6.out]; simp; omega)
      go_in; go_wp2_with fail; refine rA.out.mono ?_; rintro e w2 ⟨rfl, hb2⟩; have HB2 := Z9 (HB1.out.trans (hb2.mono HB1.out.size)); have Fj := Z9 hb2; have gP2 := (hb2.block _ (Z6 WO.out)).trans WO.out; clear hb2 p0 p1 p2 p3; obtain ⟨p0, p1, p2, p3⟩ := ZP gP2; clear gP2; go_wp2; go_ret; exact ⟨by rw [HF.out]; rfl, HB2.out⟩
     ·have fQ := Z9 (show Zy caps WI loc 21 n s l.length = true from by rw [P6.out]; simp; omega)
      go_in; go_wp2_with fail; refine rA.out.mono ?_; rintro e w2 ⟨rfl, hb2⟩; have HB2 := Z9 (HB1.out.trans (hb2.mono HB1.out.size)); have Fj := Z9 hb2; have gP2 := (hb2.block _ (Z6 WO.out)).trans WO.out; clear hb2 p0 p1 p2 p3; obtain ⟨p0, p1, p2, p3⟩ := ZP gP2; clear gP2; go_wp2_with fail; go_loopw [7] (fun i wr => ∃ k : Nat, k <= l.length /\ i = .int .i64 k /\ Hid (∀ i, i < k -> ZI caps WI (lo 21 loc i) (l.getD i default) = true) /\ Hid (Below w.heap.size w wr) /\ Hid (Below W.heap.size W wr)) (fun i _ => l.length - (intOf i).toNat)
      case atStart => exact ⟨0, Nat.zero_le _, rfl, fun i hi => by omega, HB2, Fj⟩
      case round =>
       obtain ⟨k, hk, rfl, HS, SL, TF⟩ := hrel; have Qd := (TF.out.block _ (Z6 WO.out)).trans WO.out; obtain ⟨p0, p1, p2, p3⟩ := ZP Qd; by_cases hkl : k < l.length
       ·have Mj := Z9 (QL 21 n s (.slice a l.length c) k wr)
        obtain ⟨bk, hbk⟩ : ∃ bk, Uy 21 k = bk := ⟨_, rfl⟩; have A8 := Z9 hbk; rw [hbk] at Mj; clear hbk; have hmem := Zr default l k hkl; have HN := Z9 (Ms (caps := caps) (Ze := WI) (loc := loc) (op := 21) (n := n) (s := s) (v := .slice a l.length c) k hkl); have HS2 := Z9 (fun (hx : ZI caps WI (lo 21 loc k) (l.getD k default) = true) (i : Nat) (hi : i < k + 1) => show ZI caps WI (lo 21 loc i) (l.getD i default) = true from by
         by_cases e : i = k
         ·subst e; exact hx
         ·exact HS.out i (by omega))
        have nT := Z9 (SC.out _ hmem); have hyk := (HY.out _ hmem).under (SL.out.mono hBw); have nR := Z9 hyk; have hhm := Xd hmem; have nQ := Z9 (fun (w3 : World) (hb : Below B w w3) => XY HR.out hb k hkl); have jM : lo 21 loc k = loc \/ lo 21 loc k = loc + 1 := by unfold lo bump; split <;> (try split) <;> omega
        clear hmem; generalize l.getD k default = x at *; obtain ⟨xo, xn, xs, xv, xl⟩ := x; obtain ⟨xa, xc, hxv, _⟩ := hyk.parts.1; subst hxv; clear hyk; cases bk
        ·have hlo := vN (loc := loc) A8.out
         rw [hlo] at HN HS2; go_wp2_with fail; refine Mj.out.mono ?_; rintro e w3 ⟨rfl, hb3⟩; have UM := SL.out.trans (hb3.mono SL.out.size); have SK := Z9 (TF.out.trans (hb3.mono TF.out.size)); have gP3 := (SK.out.block _ (Z6 WO.out)).trans WO.out; clear p0 p1 p2 p3; obtain ⟨p0, p1, p2, p3⟩ := ZP gP3; obtain ⟨b, off, rfl, Rx, c0, c1, c2, c3⟩ := nQ.out w3 (UM.mono hBw); simp only [Z0.op, Z0.n, Z0.s, Z0.lv] at c0 c1 c2 c3; have HM := Z9 (nT.out loc w3 (by have := UM.size; omega) (nR.out.under (hb3.mono (by have := SL.out.size; omega))) hl0 (by omega)); rw [ZE] at HM; have QK := Z9 UM; clear hb3 UM gP3 Mj hlo; obtain ⟨bx, hbx⟩ : ∃ bx, ZI caps WI loc (.mk xo xn xs (.slice xa xl.length xc) xl) = bx := ⟨_, rfl⟩; have OG := Z9 hbx; rw [hbx] at HM; clear hbx; go_wp2_with fail; refine HM.out.mono ?_; rintro e w4 ⟨rfl, hb4⟩; have HB5 := Z9 (QK.out.trans (hb4.mono QK.out.size)); have HB6 := Z9 (SK.out.trans (hb4.mono SK.out.size)); clear hb4 HM p0 p1 p2 p3 c0 c1 c2 c3; cases bx
         ·go_wp2
          go_ret; exact ⟨by rw [HN.out OG.out]; rfl, HB5.out⟩
         ·have HS3 := Z9 (HS2.out OG.out)
          go_wp2_with fail; go_roundw
          case rel => exact ⟨k + 1, by omega, by go_num, HS3, HB5, HB6⟩
          case measure => simp [intOf]; omega
        ·have hlo := vO (loc := loc) A8.out
         rw [hlo] at HN HS2; go_wp2_with fail; refine Mj.out.mono ?_; rintro e w3 ⟨rfl, hb3⟩; have UM := SL.out.trans (hb3.mono SL.out.size); have SK := Z9 (TF.out.trans (hb3.mono TF.out.size)); have gP3 := (SK.out.block _ (Z6 WO.out)).trans WO.out; clear p0 p1 p2 p3; obtain ⟨p0, p1, p2, p3⟩ := ZP gP3; obtain ⟨b, off, rfl, Rx, c0, c1, c2, c3⟩ := nQ.out w3 (UM.mono hBw); simp only [Z0.op, Z0.n, Z0.s, Z0.lv] at c0 c1 c2 c3; have HM := Z9 (nT.out (loc + 1) w3 (by have := UM.size; omega) (nR.out.under (hb3.mono (by have := SL.out.size; omega))) (by omega) (by omega)); rw [ZE] at HM; have QK := Z9 UM; clear hb3 UM gP3 Mj hlo; obtain ⟨bx, hbx⟩ : ∃ bx, ZI caps WI (loc + 1) (.mk xo xn xs (.slice xa xl.length xc) xl) = bx := ⟨_, rfl⟩; have OG := Z9 hbx; rw [hbx] at HM; clear hbx; go_wp2_with fail; refine HM.out.mono ?_; rintro e w4 ⟨rfl, hb4⟩; have HB5 := Z9 (QK.out.trans (hb4.mono QK.out.size)); have HB6 := Z9 (SK.out.trans (hb4.mono SK.out.size)); clear hb4 HM p0 p1 p2 p3 c0 c1 c2 c3; cases bx
         ·go_wp2
          go_ret; exact ⟨by rw [HN.out OG.out]; rfl, HB5.out⟩
         ·have HS3 := Z9 (HS2.out OG.out)
          go_wp2_with fail; go_roundw
          case rel => exact ⟨k + 1, by omega, by go_num, HS3, HB5, HB6⟩
          case measure => simp [intOf]; omega
       ·have hall : ∀ i, i < l.length -> ZI caps WI (lo 21 loc i) (l.getD i default) = true := fun i hi => HS.out i (by omega)
        have HA := Z9 (OI (v := .slice a l.length c) fQ.out hall); clear hall; go_wp2; go_ret; exact ⟨by rw [HA.out]; rfl, SL.out⟩
    ·have z21 : ¬ op = 21 := h21
     have y21 : (op == 21) = false := Zt h21; by_cases h23 : op = 23
     ·subst h23
      by_cases hn : caps <= n
      ·have HF : Hid (ZI caps WI loc (.mk 23 n s (.slice a l.length c) l) = false) := OH (by rw [P6.out]; simp; omega)
       go_in; go_wp2_with fail; refine rA.out.mono ?_; rintro e w2 ⟨rfl, hb2⟩; have HB2 := Z9 (HB1.out.trans (hb2.mono HB1.out.size)); have Fj := Z9 hb2; have gP2 := (hb2.block _ (Z6 WO.out)).trans WO.out; clear hb2 p0 p1 p2 p3; obtain ⟨p0, p1, p2, p3⟩ := ZP gP2; clear gP2; go_wp2; go_ret; exact ⟨by rw [HF.out]; rfl, HB2.out⟩
      ·have fQ := Z9 (show Zy caps WI loc 23 n s l.length = true from by rw [P6.out]; simp; omega)
       go_in; go_wp2_with fail; refine rA.out.mono ?_; rintro e w2 ⟨rfl, hb2⟩; have HB2 := Z9 (HB1.out.trans (hb2.mono HB1.out.size)); have Fj := Z9 hb2; have gP2 := (hb2.block _ (Z6 WO.out)).trans WO.out; clear hb2 p0 p1 p2 p3; obtain ⟨p0, p1, p2, p3⟩ := ZP gP2; clear gP2; go_wp2_with fail; go_loopw [7] (fun i wr => ∃ k : Nat, k <= l.length /\ i = .int .i64 k /\ Hid (∀ i, i < k -> ZI caps WI (lo 23 loc i) (l.getD i default) = true) /\ Hid (Below w.heap.size w wr) /\ Hid (Below W.heap.size W wr)) (fun i _ => l.length - (intOf i).toNat)
       case atStart => exact ⟨0, Nat.zero_le _, rfl, fun i hi => by omega, HB2, Fj⟩
       case round =>
        obtain ⟨k, hk, rfl, HS, SL, TF⟩ := hrel; have Qd := (TF.out.block _ (Z6 WO.out)).trans WO.out; obtain ⟨p0, p1, p2, p3⟩ := ZP Qd; by_cases hkl : k < l.length
        ·have Mj := Z9 (QL 23 n s (.slice a l.length c) k wr)
         obtain ⟨bk, hbk⟩ : ∃ bk, Uy 23 k = bk := ⟨_, rfl⟩; have A8 := Z9 hbk; rw [hbk] at Mj; clear hbk; have hmem := Zr default l k hkl; have HN := Z9 (Ms (caps := caps) (Ze := WI) (loc := loc) (op := 23) (n := n) (s := s) (v := .slice a l.length c) k hkl); have HS2 := Z9 (fun (hx : ZI caps WI (lo 23 loc k) (l.getD k default) = true) (i : Nat) (hi : i < k + 1) => show ZI caps WI (lo 23 loc i) (l.getD i default) = true from by
          by_cases e : i = k
          ·subst e; exact hx
          ·exact HS.out i (by omega))
         have nT := Z9 (SC.out _ hmem); have hyk := (HY.out _ hmem).under (SL.out.mono hBw); have nR := Z9 hyk; have hhm := Xd hmem; have nQ := Z9 (fun (w3 : World) (hb : Below B w w3) => XY HR.out hb k hkl); have jM : lo 23 loc k = loc \/ lo 23 loc k = loc + 1 := by unfold lo bump; split <;> (try split) <;> omega
         clear hmem; generalize l.getD k default = x at *; obtain ⟨xo, xn, xs, xv, xl⟩ := x; obtain ⟨xa, xc, hxv, _⟩ := hyk.parts.1; subst hxv; clear hyk; cases bk
         ·have hlo := vN (loc := loc) A8.out
          rw [hlo] at HN HS2; go_wp2_with fail; refine Mj.out.mono ?_; rintro e w3 ⟨rfl, hb3⟩; have UM := SL.out.trans (hb3.mono SL.out.size); have SK := Z9 (TF.out.trans (hb3.mono TF.out.size)); have gP3 := (SK.out.block _ (Z6 WO.out)).trans WO.out; clear p0 p1 p2 p3; obtain ⟨p0, p1, p2, p3⟩ := ZP gP3; obtain ⟨b, off, rfl, Rx, c0, c1, c2, c3⟩ := nQ.out w3 (UM.mono hBw); simp only [Z0.op, Z0.n, Z0.s, Z0.lv] at c0 c1 c2 c3; have HM := Z9 (nT.out loc w3 (by have := UM.size; omega) (nR.out.under (hb3.mono (by have := SL.out.size; omega))) hl0 (by omega)); rw [ZE] at HM; have QK := Z9 UM; clear hb3 UM gP3 Mj hlo; obtain ⟨bx, hbx⟩ : ∃ bx, ZI caps WI loc (.mk xo xn xs (.slice xa xl.length xc) xl) = bx := ⟨_, rfl⟩; have OG := Z9 hbx; rw [hbx] at HM; clear hbx; go_wp2_with fail; refine HM.out.mono ?_; rintro e w4 ⟨rfl, hb4⟩; have HB5 := Z9 (QK.out.trans (hb4.mono QK.out.size)); have HB6 := Z9 (SK.out.trans (hb4.mono SK.out.size)); clear hb4 HM p0 p1 p2 p3 c0 c1 c2 c3; cases bx
          ·go_wp2
           go_ret; exact ⟨by rw [HN.out OG.out]; rfl, HB5.out⟩
          ·have HS3 := Z9 (HS2.out OG.out)
           go_wp2_with fail; go_roundw
           case rel => exact ⟨k + 1, by omega, by go_num, HS3, HB5, HB6⟩
           case measure => simp [intOf]; omega
         ·have hlo := vO (loc := loc) A8.out
          rw [hlo] at HN HS2; go_wp2_with fail; refine Mj.out.mono ?_; rintro e w3 ⟨rfl, hb3⟩; have UM := SL.out.trans (hb3.mono SL.out.size); have SK := Z9 (TF.out.trans (hb3.mono TF.out.size)); have gP3 := (SK.out.block _ (Z6 WO.out)).trans WO.out; clear p0 p1 p2 p3; obtain ⟨p0, p1, p2, p3⟩ := ZP gP3; obtain ⟨b, off, rfl, Rx, c0, c1, c2, c3⟩ := nQ.out w3 (UM.mono hBw); simp only [Z0.op, Z0.n, Z0.s, Z0.lv] at c0 c1 c2 c3; have HM := Z9 (nT.out (loc + 1) w3 (by have := UM.size; omega) (nR.out.under (hb3.mono (by have := SL.out.size; omega))) (by omega) (by omega)); rw [ZE] at HM; have QK := Z9 UM; clear hb3 UM gP3 Mj hlo; obtain ⟨bx, hbx⟩ : ∃ bx, ZI caps WI (loc + 1) (.mk xo xn xs (.slice xa xl.length xc) xl) = bx := ⟨_, rfl⟩; have OG := Z9 hbx; rw [hbx] at HM; clear hbx; go_wp2_with fail; refine HM.out.mono ?_; rintro e w4 ⟨rfl, hb4⟩; have HB5 := Z9 (QK.out.trans (hb4.mono QK.out.size)); have HB6 := Z9 (SK.out.trans (hb4.mono SK.out.size)); clear hb4 HM p0 p1 p2 p3 c0 c1 c2 c3; cases bx
          ·go_wp2
           go_ret; exact ⟨by rw [HN.out OG.out]; rfl, HB5.out⟩
          ·have HS3 := Z9 (HS2.out OG.out)
           go_wp2_with fail; go_roundw
           case rel => exact ⟨k + 1, by omega, by go_num, HS3, HB5, HB6⟩
           case measure => simp [intOf]; omega
        ·have hall : ∀ i, i < l.length -> ZI caps WI (lo 23 loc i) (l.getD i default) = true := fun i hi => HS.out i (by omega)
         have HA := Z9 (OI (v := .slice a l.length c) fQ.out hall); clear hall; go_wp2; go_ret; exact ⟨by rw [HA.out]; rfl, SL.out⟩
     ·have z23 : ¬ op = 23 := h23
      have y23 : (op == 23) = false := Zt h23; have fQ := Z9 (show Zy caps WI loc op n s l.length = true from by rw [P6.out]; simp [h21, h23]); go_in; go_wp2_with fail; refine rA.out.mono ?_; rintro e w2 ⟨rfl, hb2⟩; have HB2 := Z9 (HB1.out.trans (hb2.mono HB1.out.size)); have Fj := Z9 hb2; have gP2 := (hb2.block _ (Z6 WO.out)).trans WO.out; clear hb2 p0 p1 p2 p3; obtain ⟨p0, p1, p2, p3⟩ := ZP gP2; clear gP2; go_wp2_with fail; go_loopw [7] (fun i wr => ∃ k : Nat, k <= l.length /\ i = .int .i64 k /\ Hid (∀ i, i < k -> ZI caps WI (lo op loc i) (l.getD i default) = true) /\ Hid (Below w.heap.size w wr) /\ Hid (Below W.heap.size W wr)) (fun i _ => l.length - (intOf i).toNat)
      case atStart => exact ⟨0, Nat.zero_le _, rfl, fun i hi => by omega, HB2, Fj⟩
      case round =>
       obtain ⟨k, hk, rfl, HS, SL, TF⟩ := hrel; have Qd := (TF.out.block _ (Z6 WO.out)).trans WO.out; obtain ⟨p0, p1, p2, p3⟩ := ZP Qd; by_cases hkl : k < l.length
       ·have Mj := Z9 (QL op n s (.slice a l.length c) k wr)
        obtain ⟨bk, hbk⟩ : ∃ bk, Uy op k = bk := ⟨_, rfl⟩; have A8 := Z9 hbk; rw [hbk] at Mj; clear hbk; have hmem := Zr default l k hkl; have HN := Z9 (Ms (caps := caps) (Ze := WI) (loc := loc) (op := op) (n := n) (s := s) (v := .slice a l.length c) k hkl); have HS2 := Z9 (fun (hx : ZI caps WI (lo op loc k) (l.getD k default) = true) (i : Nat) (hi : i < k + 1) => show ZI caps WI (lo op loc i) (l.getD i default) = true from by
         by_cases e : i = k
         ·subst e; exact hx
         ·exact HS.out i (by omega))
        have nT := Z9 (SC.out _ hmem); have hyk := (HY.out _ hmem).under (SL.out.mono hBw); have nR := Z9 hyk; have hhm := Xd hmem; have nQ := Z9 (fun (w3 : World) (hb : Below B w w3) => XY HR.out hb k hkl); have jM : lo op loc k = loc \/ lo op loc k = loc + 1 := by unfold lo bump; split <;> (try split) <;> omega
        clear hmem; generalize l.getD k default = x at *; obtain ⟨xo, xn, xs, xv, xl⟩ := x; obtain ⟨xa, xc, hxv, _⟩ := hyk.parts.1; subst hxv; clear hyk; cases bk
        ·have hlo := vN (loc := loc) A8.out
         rw [hlo] at HN HS2; go_wp2_with fail; refine Mj.out.mono ?_; rintro e w3 ⟨rfl, hb3⟩; have UM := SL.out.trans (hb3.mono SL.out.size); have SK := Z9 (TF.out.trans (hb3.mono TF.out.size)); have gP3 := (SK.out.block _ (Z6 WO.out)).trans WO.out; clear p0 p1 p2 p3; obtain ⟨p0, p1, p2, p3⟩ := ZP gP3; obtain ⟨b, off, rfl, Rx, c0, c1, c2, c3⟩ := nQ.out w3 (UM.mono hBw); simp only [Z0.op, Z0.n, Z0.s, Z0.lv] at c0 c1 c2 c3; have HM := Z9 (nT.out loc w3 (by have := UM.size; omega) (nR.out.under (hb3.mono (by have := SL.out.size; omega))) hl0 (by omega)); rw [ZE] at HM; have QK := Z9 UM; clear hb3 UM gP3 Mj hlo; obtain ⟨bx, hbx⟩ : ∃ bx, ZI caps WI loc (.mk xo xn xs (.slice xa xl.length xc) xl) = bx := ⟨_, rfl⟩; have OG := Z9 hbx; rw [hbx] at HM; clear hbx; go_wp2_with fail; refine HM.out.mono ?_; rintro e w4 ⟨rfl, hb4⟩; have HB5 := Z9 (QK.out.trans (hb4.mono QK.out.size)); have HB6 := Z9 (SK.out.trans (hb4.mono SK.out.size)); clear hb4 HM p0 p1 p2 p3 c0 c1 c2 c3; cases bx
         ·go_wp2
          go_ret; exact ⟨by rw [HN.out OG.out]; rfl, HB5.out⟩
         ·have HS3 := Z9 (HS2.out OG.out)
          go_wp2_with fail; go_roundw
          case rel => exact ⟨k + 1, by omega, by go_num, HS3, HB5, HB6⟩
          case measure => simp [intOf]; omega
        ·have hlo := vO (loc := loc) A8.out
         rw [hlo] at HN HS2; go_wp2_with fail; refine Mj.out.mono ?_; rintro e w3 ⟨rfl, hb3⟩; have UM := SL.out.trans (hb3.mono SL.out.size); have SK := Z9 (TF.out.trans (hb3.mono TF.out.size)); have gP3 := (SK.out.block _ (Z6 WO.out)).trans WO.out; clear p0 p1 p2 p3; obtain ⟨p0, p1, p2, p3⟩ := ZP gP3; obtain ⟨b, off, rfl, Rx, c0, c1, c2, c3⟩ := nQ.out w3 (UM.mono hBw); simp only [Z0.op, Z0.n, Z0.s, Z0.lv] at c0 c1 c2 c3; have HM := Z9 (nT.out (loc + 1) w3 (by have := UM.size; omega) (nR.out.under (hb3.mono (by have := SL.out.size; omega))) (by omega) (by omega)); rw [ZE] at HM; have QK := Z9 UM; clear hb3 UM gP3 Mj hlo; obtain ⟨bx, hbx⟩ : ∃ bx, ZI caps WI (loc + 1) (.mk xo xn xs (.slice xa xl.length xc) xl) = bx := ⟨_, rfl⟩; have OG := Z9 hbx; rw [hbx] at HM; clear hbx; go_wp2_with fail; refine HM.out.mono ?_; rintro e w4 ⟨rfl, hb4⟩; have HB5 := Z9 (QK.out.trans (hb4.mono QK.out.size)); have HB6 := Z9 (SK.out.trans (hb4.mono SK.out.size)); clear hb4 HM p0 p1 p2 p3 c0 c1 c2 c3; cases bx
         ·go_wp2
          go_ret; exact ⟨by rw [HN.out OG.out]; rfl, HB5.out⟩
         ·have HS3 := Z9 (HS2.out OG.out)
          go_wp2_with fail; go_roundw
          case rel => exact ⟨k + 1, by omega, by go_num, HS3, HB5, HB6⟩
          case measure => simp [intOf]; omega
       ·have hall : ∀ i, i < l.length -> ZI caps WI (lo op loc i) (l.getD i default) = true := fun i hi => HS.out i (by omega)
        have HA := Z9 (OI (v := .slice a l.length c) fQ.out hall); clear hall; go_wp2; go_ret; exact ⟨by rw [HA.out]; rfl, SL.out⟩
def Iw (fl : List ZJ) (n : Int) (k : Nat) : Bool := decide (n < fl.length) && decide ((fl.getD n.toNat default).caps = k)
mutual
def UL (fl : List ZJ) : Z0 -> Bool
 | .mk op n _ _ l => (if op = 24 then Iw fl n l.length else true) && Q8 fl l
def Q8 (fl : List ZJ) : List Z0 -> Bool
 | [] => true
 | x :: r => UL fl x && Q8 fl r
end
theorem Fh (fl : List ZJ) (op n : Int) (s : ByteArray) (v : Value) (l : List Z0) : UL fl (.mk op n s v l) = ((if op = 24 then Iw fl n l.length else true) && Q8 fl l) := by rw [UL]
theorem Nz (fl : List ZJ) : ∀ (l : List Z0), (∀ i, i < l.length -> UL fl (l.getD i default) = true) -> Q8 fl l = true
 | [], _ => by unfold Q8; rfl
 | x :: r, h => by
   unfold Q8; rw [Bool.and_eq_true]; exact ⟨by simpa using h 0 (by simp), Nz fl r fun i hi => by simpa using h (i + 1) (by simpa using hi)⟩
theorem PE (fl : List ZJ) : ∀ (l : List Z0) (i : Nat), i < l.length -> UL fl (l.getD i default) = false -> Q8 fl l = false
 | [], i, h, _ => by simp at h
 | x :: r, 0, _, h => by unfold Q8; rw [Bool.and_eq_false_iff]; exact .inl (by simpa using h)
 | x :: r, i + 1, hi, h => by
   unfold Q8; rw [Bool.and_eq_false_iff]; exact .inr (PE fl r i (by simpa using hi) (by simpa using h))
theorem uI {caps loc op n : Int} {s : ByteArray} {k : Nat} {Ze aaE : Int -> Int -> Bool} (h : op ≠ 24) : Zy caps Ze loc op n s k = Zy caps aaE loc op n s k := by
 unfold Zy; simp only [Z7 h]
theorem uH (fl : List ZJ) (caps loc op n : Int) (s : ByteArray) (k : Nat) : Zy caps (YM fl) loc op n s k = (Zy caps WI loc op n s k && (if op = 24 then Iw fl n k else true)) := by
 by_cases h : op = 24
 ·subst h
  rw [ZY rfl]; by_cases hs : s.size = 0
  ·rw [QT (.inr hs), QT (.inr hs), Bool.eq_iff_iff]
   unfold YM WI Iw Y7; simp; constructor
   ·rintro ⟨h1, ⟨h2, h3⟩, h4⟩; exact ⟨⟨h1, h2⟩, by omega, h4⟩
   ·rintro ⟨⟨h1, h2⟩, h3, h4⟩; exact ⟨h1, ⟨h2, by omega⟩, h4⟩
  ·rw [Mt (by decide) hs, Mt (by decide) hs]; rfl
 ·rw [Z7 h, Bool.and_true]; exact uI h
theorem uG (fl : List ZJ) (caps : Int) (x : Z0) : ∀ loc, ZI caps (YM fl) loc x = (ZI caps WI loc x && UL fl x) := by
 induction x using Z0.induct with
 | h op n s lv l ih =>
   intro loc; have hl : ∀ (l : List Z0) (a b : Int), (∀ y ∈ l, ∀ loc, ZI caps (YM fl) loc y = (ZI caps WI loc y && UL fl y)) -> XF caps (YM fl) a b l = (XF caps WI a b l && Q8 fl l) := fun l => by
    induction l with
    | nil => intro a b _; unfold XF Q8; rfl
    | cons x r ih2 =>
      intro a b h; unfold XF Q8; rw [h x (by simp) a, ih2 b b fun y hy => h y (by simp [hy])]; cases ZI caps WI a x <;> cases UL fl x <;> cases XF caps WI b b r <;> rfl
   rw [Fh]; unfold ZI; rw [uH, hl l _ _ ih]; cases Zy caps WI loc op n s l.length <;> cases (if op = 24 then Iw fl n l.length else true) <;> cases XF caps WI loc (loc + bump op) l <;> rfl
def Cw (f : ZJ) : Bool := Y7 f.caps 0 1000 && ZI f.caps WI 1 f.body
theorem qm (fl : List ZJ) (f : ZJ) : V6 (YM fl) f = (Cw f && UL fl f.body) := by
 unfold V6 Cw; rw [uG, Bool.and_assoc]
theorem Iu (B : Nat) (fv : Value) (fl : List ZJ) (x : Z0) : ∀ (w : World), B <= w.heap.size -> Y0 B w x -> Xh B w fv fl -> OJ (fun n p => WI n p = true) x ->
 Calls Tryz.prog 44 #[Ws x, fv] w (Yn (UL fl x) w) := by
 induction x using Z0.induct with
 | h op n s lv l ih =>
   intro w hBw hx hF hcl; rw [ZE, Fh]; have SC := Z9 ih; obtain ⟨hr, hm, hy⟩ := hx.parts; have HY := Z9 hy; have HR := Z9 hr; have HF := Z9 hF; have je := Z9 (Dq hcl); have hm' : l.length <= 9223372036854775807 := by unfold maxLen at hm; omega
   have hmf : fl.length <= 9223372036854775807 := by have := hF.2.1; unfold maxLen at this; omega
   obtain ⟨a, c, rfl, hlc, _⟩ := hr; have hb1 := YP op n s (.slice a l.length c) w; have gP := ZV w (.cells #[.int .i64 op, .int .i64 n, .string s, .slice a l.length c] 36); obtain ⟨p0, p1, p2, p3⟩ := ZP gP; have WO := Z9 gP; have HB1 := Z9 hb1; have hFW := hF.under (hb1.mono hBw); obtain ⟨⟨fa, fc, rfl, hfc, _⟩, _⟩ := hF; have fP : True := trivial; clear ih hx hy gP hm hb1 hcl fP; by_cases h24 : op = 24
   ·subst h24
    have hn0 : 0 <= n := by have := je.out.1 rfl; unfold WI at this; simpa using this
    obtain ⟨m, rfl⟩ : ∃ m : Nat, n = m := ⟨n.toNat, by omega⟩; rw [ZY rfl]; by_cases hml : m < fl.length
    ·obtain ⟨b, off, c', ha, _, _, c0, _⟩ := VT hFW.1 m hml
     obtain rfl := (Value.slice.inj ha).1; have HC := Z9 (show Iw fl (m : Int) l.length = decide ((fl.getD m default).caps = l.length) from by unfold Iw; rw [decide_eq_true (show (m : Int) < fl.length by omega)]; rfl); clear ha hFW; generalize (fl.getD m default).caps = x at *; rw [HC.out]; by_cases hxk : x = (l.length : Int)
     ·have HX := Z9 (decide_eq_true hxk)
      subst hxk; have hx2 : ((l.length : Int) != (l.length : Int)) = false := by simp
      have aI : decide (fl.length <= m) = false := YR (by omega); generalize hW : w.alloc (.cells #[.int .i64 24, .int .i64 m, .string s, .slice a l.length c] 36) = W at *; go_in; go_wp2_with fail; go_quiet (fail); have HBQ := Z9 (UY HB1.out nq); have IY := Z9 (UY (Below.refl W.heap.size W) nq); go_wp2_with fail; go_loopw [5] (fun i wr => ∃ k : Nat, k <= l.length /\ i = .int .i64 k /\ Hid (∀ i, i < k -> UL fl (l.getD i default) = true) /\ Hid (Below w.heap.size w wr) /\ Hid (Below W.heap.size W wr)) (fun i _ => l.length - (intOf i).toNat)
      case atStart => exact ⟨0, Nat.zero_le _, rfl, fun i hi => by omega, HBQ, IY⟩
      case round =>
       obtain ⟨k, hk, rfl, HS, SL, TF⟩ := hrel; have Qd := (TF.out.block _ (Z6 WO.out)).trans WO.out; clear p0 p1 p2 p3; obtain ⟨p0, p1, p2, p3⟩ := ZP Qd; by_cases hkl : k < l.length
       ·obtain ⟨b2, off2, rfl, vK, c0, c1, c2, c3⟩ := XY HR.out (SL.out.mono hBw) k hkl
        have hmem := Zr default l k hkl; have HN := Z9 (PE fl l k hkl); have HS2 := Z9 (fun (hx : UL fl (l.getD k default) = true) (i : Nat) (hi : i < k + 1) => show UL fl (l.getD i default) = true from by
         by_cases e : i = k
         ·subst e; exact hx
         ·exact HS.out i (by omega))
        have hyk := (HY.out _ hmem).under (SL.out.mono hBw); have hck := je.out.2 _ hmem; have hih := SC.out _ hmem wr (by have := SL.out.size; omega) hyk (HF.out.under (SL.out.mono hBw)) hck; clear hmem; generalize l.getD k default = x at *; obtain ⟨xo, xn, xs, xv, xl⟩ := x; obtain ⟨xa, xc, hxv, _⟩ := hyk.parts.1; subst hxv; simp only [Z0.op, Z0.n, Z0.s, Z0.lv] at c0 c1 c2 c3; have HM := Z9 hih; rw [ZE] at HM; clear hyk hck hih Qd; obtain ⟨bx, hbx⟩ : ∃ bx, UL fl (.mk xo xn xs (.slice xa xl.length xc) xl) = bx := ⟨_, rfl⟩; have OG := Z9 hbx; rw [hbx] at HM; clear hbx; go_wp2_with fail; refine HM.out.mono ?_; rintro e w4 ⟨rfl, hb4⟩; have HB5 := Z9 (SL.out.trans (hb4.mono SL.out.size)); have HB6 := Z9 (TF.out.trans (hb4.mono TF.out.size)); clear hb4 HM p0 p1 p2 p3 c0 c1 c2 c3; cases bx
        ·go_wp2
         go_ret; exact ⟨by rw [HN.out OG.out]; simp, HB5.out⟩
        ·have HS3 := Z9 (HS2.out OG.out)
         go_wp2_with fail; go_roundw
         case rel => exact ⟨k + 1, by omega, by go_num, HS3, HB5, HB6⟩
         case measure => simp [intOf]; omega
       ·have HA := Z9 (Nz fl l fun i hi => HS.out i (by omega))
        go_wp2; go_ret; exact ⟨by rw [HA.out]; rw [HX.out]; rfl, SL.out⟩
     ·have HX := Z9 (YR hxk)
      have hx1 : (x == (l.length : Int)) = false := Zt hxk; have hx2 : (x != (l.length : Int)) = true := bne_iff_ne.2 hxk; generalize hW : w.alloc (.cells #[.int .i64 24, .int .i64 m, .string s, .slice a l.length c] 36) = W at *; go_in; go_wp2_with fail; go_quiet (fail); go_wp2; go_ret; exact ⟨by rw [HX.out]; rfl, UY HB1.out _⟩
    ·have HC := Z9 (show Iw fl (m : Int) l.length = false from by unfold Iw; rw [YR (show ¬ (m : Int) < fl.length by omega)]; rfl)
     rw [HC.out]; generalize hW : w.alloc (.cells #[.int .i64 24, .int .i64 m, .string s, .slice a l.length c] 36) = W at *; go_in; go_wp2_with fail; go_quiet (fail); go_wp2; go_ret; exact ⟨rfl, UY HB1.out _⟩
   ·have z24 : ¬ op = 24 := h24
    have y24 : (op == 24) = false := Zt h24; rw [Z7 h24, Bool.true_and]; generalize hW : w.alloc (.cells #[.int .i64 op, .int .i64 n, .string s, .slice a l.length c] 36) = W at *; go_in; go_wp2_with fail; go_quiet (fail); have HBQ := Z9 (UY HB1.out nq); have IY := Z9 (UY (Below.refl W.heap.size W) nq); go_wp2_with fail; go_loopw [5] (fun i wr => ∃ k : Nat, k <= l.length /\ i = .int .i64 k /\ Hid (∀ i, i < k -> UL fl (l.getD i default) = true) /\ Hid (Below w.heap.size w wr) /\ Hid (Below W.heap.size W wr)) (fun i _ => l.length - (intOf i).toNat)
    case atStart => exact ⟨0, Nat.zero_le _, rfl, fun i hi => by omega, HBQ, IY⟩
    case round =>
     obtain ⟨k, hk, rfl, HS, SL, TF⟩ := hrel; have Qd := (TF.out.block _ (Z6 WO.out)).trans WO.out; clear p0 p1 p2 p3; obtain ⟨p0, p1, p2, p3⟩ := ZP Qd; by_cases hkl : k < l.length
     ·obtain ⟨b2, off2, rfl, vK, c0, c1, c2, c3⟩ := XY HR.out (SL.out.mono hBw) k hkl
      have hmem := Zr default l k hkl; have HN := Z9 (PE fl l k hkl); have HS2 := Z9 (fun (hx : UL fl (l.getD k default) = true) (i : Nat) (hi : i < k + 1) => show UL fl (l.getD i default) = true from by
       by_cases e : i = k
       ·subst e; exact hx
       ·exact HS.out i (by omega))
      have hyk := (HY.out _ hmem).under (SL.out.mono hBw); have hck := je.out.2 _ hmem; have hih := SC.out _ hmem wr (by have := SL.out.size; omega) hyk (HF.out.under (SL.out.mono hBw)) hck; clear hmem; generalize l.getD k default = x at *; obtain ⟨xo, xn, xs, xv, xl⟩ := x; obtain ⟨xa, xc, hxv, _⟩ := hyk.parts.1; subst hxv; simp only [Z0.op, Z0.n, Z0.s, Z0.lv] at c0 c1 c2 c3; have HM := Z9 hih; rw [ZE] at HM; clear hyk hck hih Qd; obtain ⟨bx, hbx⟩ : ∃ bx, UL fl (.mk xo xn xs (.slice xa xl.length xc) xl) = bx := ⟨_, rfl⟩; have OG := Z9 hbx; rw [hbx] at HM; clear hbx; go_wp2_with fail; refine HM.out.mono ?_; rintro e w4 ⟨rfl, hb4⟩; have HB5 := Z9 (SL.out.trans (hb4.mono SL.out.size)); have HB6 := Z9 (TF.out.trans (hb4.mono TF.out.size)); clear hb4 HM p0 p1 p2 p3 c0 c1 c2 c3; cases bx
      ·go_wp2
       go_ret; exact ⟨by rw [HN.out OG.out]; rfl, HB5.out⟩
      ·have HS3 := Z9 (HS2.out OG.out)
       go_wp2_with fail; go_roundw
       case rel => exact ⟨k + 1, by omega, by go_num, HS3, HB5, HB6⟩
       case measure => simp [intOf]; omega
     ·have HA := Z9 (Nz fl l fun i hi => HS.out i (by omega))
      go_wp2; go_ret; exact ⟨by rw [HA.out]; rfl, SL.out⟩
theorem uF (B : Nat) (f : ZJ) (w : World) (hBw : B <= w.heap.size) (hx : Y0 B w f.body) (hs : YO f.body <= 600) (hh : Y5 f.body <= 211) :
 Calls Tryz.prog 43 #[TJ f] w (Yn (Cw f) w) := by
 obtain ⟨caps, ⟨op, n, s, lv, l⟩⟩ := f
 obtain ⟨la, lc, hlv, _⟩ := hx.parts.1
 subst hlv
 show Calls Tryz.prog _ #[.agg #[.int .i64 caps, .int .i64 op, .int .i64 n, .string s, .slice la l.length lc]] _ _
 change Y0 B w (.mk op n s (.slice la l.length lc) l) at hx
 change YO (.mk op n s (.slice la l.length lc) l) <= 600 at hs
 change Y5 (.mk op n s (.slice la l.length lc) l) <= 211 at hh
 have hg := Z8 w (.cells #[.int .i64 caps, .int .i64 op, .int .i64 n, .string s, .slice la l.length lc] 38)
 have hb := ZX hg (Nat.le_refl _) (by nofun)
 have gP := ZV w (.cells #[.int .i64 caps, .int .i64 op, .int .i64 n, .string s, .slice la l.length lc] 38)
 obtain ⟨p0, p1, p2, p3, p4⟩ := XR gP
 have jL := hx.under (hb.mono hBw)
 have fO := Z9 (ze B (.mk op n s (.slice la l.length lc) l) (w.alloc (.cells #[.int .i64 caps, .int .i64 op, .int .i64 n, .string s, .slice la l.length lc] 38)) 20001 1 (by have := hb.size; omega) jL (by omega) (by omega) (by omega))
 have HBO := Z9 (fun (w2 : World) (hb2 : Below w.heap.size w w2) => uJ B caps (.mk op n s (.slice la l.length lc) l) 1 w2 (by have := hb2.size; omega) (hx.under (hb2.mono hBw)) (by omega) (by omega))
 have HB := Z9 hb
 have WO := Z9 gP
 rw [ZE] at fO HBO
 unfold Iy at fO
 obtain ⟨sx, hsx⟩ : ∃ sx, YO (.mk op n s (.slice la l.length lc) l) = sx := ⟨_, rfl⟩
 rw [hsx] at fO hs
 have hsi : (sx : Int) <= 20000 := by omega
 have lZ : Hid (Cw ⟨caps, .mk op n s (.slice la l.length lc) l⟩ = (Y7 caps 0 1000 && ZI caps WI 1 (.mk op n s (.slice la l.length lc) l))) := rfl
 clear hx hg hb gP jL hsx hs hh
 obtain ⟨bb, hbb⟩ : ∃ bb, Y7 caps 0 1000 = bb := ⟨_, rfl⟩
 have VU := Z9 hbb
 clear hbb
 obtain ⟨bx, hbx⟩ : ∃ bx, ZI caps WI 1 (.mk op n s (.slice la l.length lc) l) = bx := ⟨_, rfl⟩
 rw [hbx] at HBO lZ
 rw [lZ.out, VU.out]
 clear hbx lZ
 generalize hW : w.alloc (.cells #[.int .i64 caps, .int .i64 op, .int .i64 n, .string s, .slice la l.length lc] 38) = W at *
 cases bb
 ·go_in
  go_wp2_with fail; refine (XH _ _ _ _).mono ?_; rintro e w' ⟨rfl, rfl⟩; rw [VU.out]; go_wp2; go_ret; exact ⟨rfl, HB.out⟩
 ·go_in
  go_wp2_with fail; refine (XH _ _ _ _).mono ?_; rintro e w' ⟨rfl, rfl⟩; rw [VU.out]; go_wp2_with fail; refine fO.out.mono ?_; rintro e w2 ⟨rfl, hb2⟩; have hb3 := HB.out.trans (hb2.mono HB.out.size); have gP2 := (hb2.block _ (Z6 WO.out)).trans WO.out; have HB2 := Z9 (HBO.out w2 hb3); have HB3 := Z9 hb3; clear hb2 hb3 fO p0 p1 p2 p3 p4; obtain ⟨p0, p1, p2, p3, p4⟩ := XR gP2; go_wp2_with fail; refine HB2.out.mono ?_; rintro e w3 ⟨rfl, hb4⟩; have HB5 := Z9 (HB3.out.trans (hb4.mono HB3.out.size)); clear hb4 HB2; go_wp2; go_ret; exact ⟨rfl, HB5.out⟩
theorem Fg (B : Nat) (fv : Value) (fl : List ZJ) (main : Int) (w : World) (hF : Xh B w fv fl) (hBw : B <= w.heap.size) (hs : ∀ f ∈ fl, YO f.body <= 600 /\ Y5 f.body <= 211) :
 Calls Tryz.prog 18 #[fv, .int .i64 main] w (FW (XI fl main) w) := by
 have hm' : fl.length <= 9223372036854775807 := by have := hF.2.1; unfold maxLen at this; omega
 have hw1 : IntKind.i64.wrap ((fl.length : Int) - 1) = (fl.length : Int) - 1 := YJ _ (by omega) (by omega)
 have HF := Z9 hF
 have HS := Z9 hs
 have HB0 := Z9 (Below.refl w.heap.size w)
 obtain ⟨⟨a, c, rfl, hlc, _⟩, _⟩ := hF
 clear hs
 obtain ⟨b0, hb0⟩ : ∃ bb, Y7 (fl.length : Int) 1 4096 = bb := ⟨_, rfl⟩
 have Hb0 := Z9 hb0
 obtain ⟨b1, hb1⟩ : ∃ bb, Y7 main 0 ((fl.length : Int) - 1) = bb := ⟨_, rfl⟩
 have Hb1 := Z9 hb1
 clear hb0 hb1
 cases b0
 ·go_in
  go_wp2_with fail; refine (XH _ _ _ _).mono ?_; rintro e w' ⟨rfl, rfl⟩; rw [Hb0.out]; go_wp2; go_ret; exact ⟨by rw [jc Hb0.out]; rfl, HB0.out⟩
 ·cases b1
  ·go_in
   go_wp2_with fail; refine (XH _ _ _ _).mono ?_; rintro e w' ⟨rfl, rfl⟩; rw [Hb0.out]; go_wp2_with fail; refine (XH _ _ _ _).mono ?_; rintro e w' ⟨rfl, rfl⟩; rw [Hb1.out]; go_wp2; go_ret; exact ⟨by rw [iZ Hb1.out]; rfl, HB0.out⟩
  ·obtain ⟨m, rfl⟩ : ∃ m : Nat, main = m := ⟨main.toNat, by have := Hb1.out; unfold Y7 at this; simp at this; omega⟩
   have hml : m < fl.length := by have := Hb1.out; unfold Y7 at this; simp at this; omega
   obtain ⟨b, off, c', ha, _, _, c0, _⟩ := VT HF.out.1 m hml; obtain rfl := (Value.slice.inj ha).1; have H2 := Z9 (iY (fl := fl) (main := (m : Int))); have H3 := Z9 (iX (fl := fl) (main := (m : Int)) Hb0.out Hb1.out); rw [Int.toNat_natCast] at H2 H3; clear ha; generalize (fl.getD m default).caps = x at *; by_cases hx : x = 0
   ·subst hx
    have H3' := Z9 (H3.out rfl); go_in; go_wp2_with fail; refine (XH _ _ _ _).mono ?_; rintro e w' ⟨rfl, rfl⟩; rw [Hb0.out]; go_wp2_with fail; refine (XH _ _ _ _).mono ?_; rintro e w' ⟨rfl, rfl⟩; rw [Hb1.out]; go_wp2_with fail; go_loopw [5] (fun i wr => ∃ k : Nat, k <= fl.length /\ i = .int .i64 k /\ Hid ((fl.take k).any (fun f => !V6 (YM fl) f) = false) /\ Hid (Below w.heap.size w wr)) (fun i _ => fl.length - (intOf i).toNat)
    case atStart => exact ⟨0, Nat.zero_le _, rfl, rfl, HB0⟩
    case round =>
     obtain ⟨k, hk, rfl, hno, HB⟩ := hrel; clear c0; by_cases hkl : k < fl.length
     ·have KA := HF.out.under (HB.out.mono hBw)
      obtain ⟨b9, lu, c9, ha, _, Rx, c0, c1, c2, c3, c4⟩ := VT KA.1 k hkl; obtain ⟨rfl, rfl⟩ : b9 = b /\ lu = off := by
       have h1 := Option.some.inj (Value.slice.inj ha).1; injection h1 with h2 h3; exact ⟨h2.symm, h3.symm⟩
      have hmem := Zr default fl k hkl; have hxk := KA.2.2 _ hmem; obtain ⟨hs6, hh2⟩ := HS.out _ hmem; have Mj := Z9 (uF B (fl.getD k default) wr (by have := HB.out.size; omega) hxk hs6 hh2); have fM := Z9 (fun (w2 : World) (hb2 : Below w.heap.size w w2) (hfr : Cw (fl.getD k default) = true) => Iu B (.slice (some ⟨b9, lu, none⟩) fl.length c) fl (fl.getD k default).body w2 (by have := hb2.size; omega) ((HF.out.2.2 _ hmem).under (hb2.mono hBw)) (HF.out.under (hb2.mono hBw)) (M6 _ 1 (by unfold Cw at hfr; rw [Bool.and_eq_true] at hfr; exact hfr.2))); have HFC := Z9 (fun (w2 : World) (hb2 : Below w.heap.size w w2) => VT (HF.out.under (hb2.mono hBw)).1 k hkl); have Hn := Z9 (TY default fl (fun f => !V6 (YM fl) f) k hkl hno.out); have Hy := Z9 (Sw default fl (fun f => !V6 (YM fl) f) k hkl); have HV := Z9 (qm fl (fl.getD k default)); generalize fl.getD k default = f at *; clear ha hmem KA; obtain ⟨caps, ⟨xo, xn, xs, xv, xl⟩⟩ := f; obtain ⟨xa, xc, hxv, _⟩ := hxk.parts.1; subst hxv; simp only [Z0.op, Z0.n, Z0.s, Z0.lv] at c0 c1 c2 c3 c4; rw [show TJ ⟨caps, .mk xo xn xs (.slice xa xl.length xc) xl⟩ = .agg #[.int .i64 caps, .int .i64 xo, .int .i64 xn, .string xs, .slice xa xl.length xc] from rfl] at Mj; obtain ⟨bf, hbf⟩ : ∃ bf, Cw ⟨caps, .mk xo xn xs (.slice xa xl.length xc) xl⟩ = bf := ⟨_, rfl⟩; rw [hbf] at Mj fM HV; clear hbf hxk hs6 hh2; cases bf
      ·have HF1 := Z9 (show (!V6 (YM fl) ⟨caps, .mk xo xn xs (.slice xa xl.length xc) xl⟩) = true from by rw [HV.out]; rfl)
       go_wp2_with fail; refine Mj.out.mono ?_; rintro e w2 ⟨rfl, hb2⟩; have HB5 := Z9 (HB.out.trans (hb2.mono HB.out.size)); clear hb2; go_wp2; go_ret; exact ⟨by rw [H3'.out, Hy.out HF1.out]; rfl, HB5.out⟩
      ·go_wp2_with fail
       refine Mj.out.mono ?_; rintro e w2 ⟨rfl, hb2⟩; have hb5 := HB.out.trans (hb2.mono HB.out.size); have HB5 := Z9 hb5; have HC := Z9 (fM.out w2 hb5 trivial); obtain ⟨b8, aaF, c8, ha8, _, _, d0, d1, d2, d3, d4⟩ := HFC.out w2 hb5; obtain ⟨rfl, rfl⟩ : b8 = b9 /\ aaF = lu := by
        have h1 := Option.some.inj (Value.slice.inj ha8).1; injection h1 with h2 h3; exact ⟨h2.symm, h3.symm⟩
       simp only [Z0.op, Z0.n, Z0.s, Z0.lv] at d0 d1 d2 d3 d4; rw [ZE] at HC; obtain ⟨bx, hbx⟩ : ∃ bx, UL fl (.mk xo xn xs (.slice xa xl.length xc) xl) = bx := ⟨_, rfl⟩; rw [hbx] at HC; have HV2 := Z9 (show V6 (YM fl) ⟨caps, .mk xo xn xs (.slice xa xl.length xc) xl⟩ = bx from by rw [HV.out, Bool.true_and]; exact hbx); clear hbx hb2 hb5 ha8 c0 c1 c2 c3 c4; go_wp2_with fail; refine HC.out.mono ?_; rintro e w3 ⟨rfl, hb3⟩; have HB6 := Z9 (HB5.out.trans (hb3.mono HB5.out.size)); clear hb3 d0 d1 d2 d3 d4; cases bx
       ·have HF1 := Z9 (show (!V6 (YM fl) ⟨caps, .mk xo xn xs (.slice xa xl.length xc) xl⟩) = true from by rw [HV2.out]; rfl)
        go_wp2; go_ret; exact ⟨by rw [H3'.out, Hy.out HF1.out]; rfl, HB6.out⟩
       ·have HF1 := Z9 (show (!V6 (YM fl) ⟨caps, .mk xo xn xs (.slice xa xl.length xc) xl⟩) = false from by rw [HV2.out]; rfl)
        have HN := Z9 (Hn.out HF1.out); go_wp2_with fail; go_roundw
        case rel => exact ⟨k + 1, by omega, by go_num, HN, HB6⟩
        case measure => simp [intOf]; omega
     ·have Lp := hno.out
      rw [List.take_of_length_le (by omega)] at Lp; have lM := Z9 Lp; clear Lp; go_wp2; go_ret; exact ⟨by rw [H3'.out, lM.out]; rfl, HB.out⟩
   ·have hx2 : (x == 0) = false := Zt hx
    have H2' := Z9 (H2.out hx); go_in; go_wp2_with fail; refine (XH _ _ _ _).mono ?_; rintro e w' ⟨rfl, rfl⟩; rw [Hb0.out]; go_wp2_with fail; refine (XH _ _ _ _).mono ?_; rintro e w' ⟨rfl, rfl⟩; rw [Hb1.out]; go_wp2; go_ret; exact ⟨by rw [H2'.out]; rfl, HB0.out⟩
def Ov (l : List ByteArray) (s : ByteArray) : Int := match X5 l s with
 | some i => (i : Int)
 | none => -1
theorem yZ {l : List ByteArray} {s : ByteArray} {k : Nat} (h1 : k < l.length) (h2 : l.getD k default = s) (h3 : ∀ j, j < k -> l.getD j default ≠ s) : Ov l s = k := by
 unfold Ov; rw [uW h1 h2 h3]
theorem Cv {l : List ByteArray} {s : ByteArray} (h : ∀ j, j < l.length -> l.getD j default ≠ s) : Ov l s = -1 := by
 unfold Ov
 cases hf : X5 l s with
 | none => rfl
 | some i => obtain ⟨h1, h2, _⟩ := Uo hf; exact absurd h2 (h i h1)
theorem yY (l : List ByteArray) (s : ByteArray) : (Ov l s < 0 ↔ (X5 l s).isSome = false) /\ -1 <= Ov l s := by
 unfold Ov
 cases hf : X5 l s with
 | none => simp
 | some i => simp <;> omega
theorem yX (v : Value) (l : List ByteArray) (s : ByteArray) (w : World) (h : Xv w v l) (hl : l.length <= 1000000) :
 Calls Tryz.prog 76 #[v, .string s] w fun e w' => e = .returned (.int .i64 (Ov l s)) /\ w = w' := by
 have H := Z9 h
 obtain ⟨a, c, rfl, _⟩ := h
 go_in
 go_wp2_with fail
 go_loop [5] (fun i => ∃ k : Nat, k <= l.length /\ i = .int .i64 k /\ Hid (∀ j, j < k -> l.getD j default ≠ s)) (fun i => l.length - (intOf i).toNat)
 case atStart => exact ⟨0, Nat.zero_le _, rfl, fun j hj => absurd hj (Nat.not_lt_zero _)⟩
 case round =>
  obtain ⟨k, hk, rfl, hno⟩ := hrel; by_cases hlt : k < l.length
  ·obtain ⟨b, off, c', ha, _, _, hc⟩ := Vj H.out k hlt
   obtain rfl := (Value.slice.inj ha).1; clear ha; obtain ⟨x, hx⟩ : ∃ x, l.getD k default = x := ⟨_, rfl⟩; rw [hx] at hc; have Hx := Z9 hx; clear hx; by_cases hxs : x = s
   ·have hq : (x.toList == s.toList) = true := (Lib.bytes_beq_iff _ _).2 hxs
    have HR := Z9 (yZ hlt (Hx.out.trans hxs) hno.out); clear hxs; go_wp2; go_ret; exact ⟨by rw [HR.out]; rfl, rfl⟩
   ·have hq : (x.toList == s.toList) = false := (Lib.bytes_beq_false_iff _ _).2 hxs
    have HN := Z9 (fun (j : Nat) (hj : j < k + 1) => show l.getD j default ≠ s from by
     by_cases e : j = k
     ·subst e; rw [Hx.out]; exact hxs
     ·exact hno.out j (by omega))
    clear hxs; go_wp2_with fail; go_round
    case rel => exact ⟨k + 1, by omega, by go_num, HN⟩
    case measure => simp [intOf]; omega
  ·have HR := Z9 (Cv (l := l) (s := s) fun j hj => hno.out j (by omega))
   go_wp2; go_ret; exact ⟨by rw [HR.out]; rfl, rfl⟩
theorem Fe (s : ByteArray) (w : World) (hs : s.size <= 16384) : Calls Tryz.prog 45 #[.string s] w fun e w' => e = .returned (.bool (VJ s)) /\ w = w' := by
 have hq : Hid (VJ s = SY s) := by show _ = _; unfold VJ; rw [decide_eq_true hs]; rfl
 rw [hq.out]
 have hsz : (s.size : Int) <= 16384 := by omega
 go_in
 go_wp2_with fail
 go_loop [3] (fun i => ∃ k : Nat, k <= s.size /\ i = .int .i64 k /\ Hid ((s.data.toList.take k).all Uv = true)) (fun i => s.size - (intOf i).toNat)
 case atStart => exact ⟨0, Nat.zero_le _, rfl, rfl⟩
 case round =>
  obtain ⟨k, hk, rfl, hall⟩ := hrel; by_cases hlt : k < s.size
  ·obtain ⟨u0, u1⟩ := ub s[k]
   have hv := wN s[k]; have Hn := Z9 (Gz s k hlt hall.out); have Hh := Z9 (Bq s k hlt); cases h10 : ((s[k].toNat : Int) == 10)
   ·have h10' : ((s[k].toNat : Int) != 10) = true := by simp [bne, h10]
    by_cases h1 : (s[k].toNat : Int) < 32
    ·have h1' : ((s[k].toNat : Int) < 32) = True := eq_true h1
     have hb : Hid (SY s = false) := Hh.out (by rw [hv, h10]; unfold RV; rw [YR (by omega)]; rfl); clear hv h1; go_wp2; go_ret; exact ⟨by rw [hb.out]; rfl, rfl⟩
    ·have h1' : ((s[k].toNat : Int) < 32) = False := eq_false h1
     by_cases h2 : 126 < (s[k].toNat : Int)
     ·have h2' : (126 < (s[k].toNat : Int)) = True := eq_true h2
      have hb : Hid (SY s = false) := Hh.out (by rw [hv, h10]; unfold RV; rw [YR (show ¬ (s[k].toNat : Int) <= 126 by omega), Bool.and_false]; rfl); clear hv h1 h2; go_wp2; go_ret; exact ⟨by rw [hb.out]; rfl, rfl⟩
     ·have h2' : (126 < (s[k].toNat : Int)) = False := eq_false h2
      have hN : Hid ((s.data.toList.take (k + 1)).all Uv = true) := Hn.out (by rw [hv]; unfold RV; rw [decide_eq_true (show 32 <= (s[k].toNat : Int) by omega), decide_eq_true (show (s[k].toNat : Int) <= 126 by omega)]; simp); clear hv h1 h2; go_wp2_with fail; go_round
      case rel => exact ⟨k + 1, by omega, by go_num, hN⟩
      case measure => simp [intOf]; omega
   ·have h10' : ((s[k].toNat : Int) != 10) = false := by simp [bne, h10]
    have hN : Hid ((s.data.toList.take (k + 1)).all Uv = true) := Hn.out (by rw [hv, h10]; rfl); clear hv; go_wp2_with fail; go_round
    case rel => exact ⟨k + 1, by omega, by go_num, hN⟩
    case measure => simp [intOf]; omega
  ·have ha : Hid (SY s = true) := by
    show _ = _
    have := hall.out; rw [List.take_of_length_le (by simp; omega)] at this; exact this
   go_wp2; go_ret; exact ⟨by rw [ha.out]; rfl, rfl⟩
def Rm (l : List ByteArray) : Int := if l.any Vm = true then 3 else if 1000 < l.length then 5 else 0
theorem Cu (v : Value) (l : List ByteArray) (w : World) (h : Xv w v l) (hl : l.length <= 1000000) (hs : ∀ s ∈ l, s.size <= 16384) :
 Calls Tryz.prog 19 #[v] w fun e w' => e = .returned (.int .i64 (Rm l)) /\ w = w' := by
 have H := Z9 h
 have HS := Z9 hs
 obtain ⟨a, c, rfl, _⟩ := h
 clear hs
 go_in
 go_wp2_with fail
 go_loop [3] (fun i => ∃ k : Nat, k <= l.length /\ i = .int .i64 k /\ Hid ((l.take k).any Vm = false)) (fun i => l.length - (intOf i).toNat)
 case atStart => exact ⟨0, Nat.zero_le _, rfl, rfl⟩
 case round =>
  obtain ⟨k, hk, rfl, hno⟩ := hrel; by_cases hlt : k < l.length
  ·obtain ⟨b, off, c', ha, _, _, hc⟩ := Vj H.out k hlt
   obtain rfl := (Value.slice.inj ha).1; clear ha; have HQ := Z9 (Fe (l.getD k default) w (HS.out _ (Zr default l k hlt))); have Hn := Z9 (TY default l Vm k hlt hno.out); have Hy := Z9 (Sw default l Vm k hlt); generalize l.getD k default = x at *; obtain ⟨bq, hbq⟩ : ∃ bq, VJ x = bq := ⟨_, rfl⟩; have hnq : Vm x = !bq := by unfold Vm; rw [hbq]
   rw [hbq] at HQ; rw [hnq] at Hn Hy; clear hbq hnq; cases bq
   ·have HY := Z9 (Hy.out rfl)
    go_wp2_with fail; refine HQ.out.mono ?_; rintro e w' ⟨rfl, rfl⟩; go_wp2; go_ret; exact ⟨by unfold Rm; rw [ZY HY.out]; rfl, rfl⟩
   ·have HN := Z9 (Hn.out rfl)
    go_wp2_with fail; refine HQ.out.mono ?_; rintro e w' ⟨rfl, rfl⟩; go_wp2_with fail; go_round
    case rel => exact ⟨k + 1, by omega, by go_num, HN⟩
    case measure => simp [intOf]; omega
  ·have Lp := hno.out
   rw [List.take_of_length_le (by omega)] at Lp; have lM := Z9 Lp; clear Lp; by_cases h1000 : 1000 < (l.length : Int)
   ·have HF := Z9 (show Rm l = 5 from by unfold Rm; rw [lM.out, Z7 (by decide), ZY (by omega)])
    go_wp2; go_ret; exact ⟨by rw [HF.out]; rfl, rfl⟩
   ·have HF := Z9 (show Rm l = 0 from by unfold Rm; rw [lM.out, Z7 (by decide), Z7 (by omega)])
    go_wp2; go_ret; exact ⟨by rw [HF.out]; rfl, rfl⟩
def xE (w : World) (v : Value) (acc : List ByteArray) : Prop := Xv w v acc /\ (acc = [] -> v = .slice none 0 0)
theorem xE.below {w w' : World} {v : Value} {acc : List ByteArray} (h : xE w v acc) (hb : Below w.heap.size w w') : xE w' v acc := ⟨Xe.below h.1 hb, h.2⟩
def AB (acc new : List ByteArray) (w : World) (e : Ending) (w' : World) : Prop := ∃ v, e = .returned v /\ xE w' v (new.foldl U0 acc) /\ Below w.heap.size w w'
theorem JK (l : List Z0) (acc : List ByteArray) (k : Nat) (h : k < l.length) : (YW (l.take (k + 1))).foldl U0 acc = (YK (l.getD k default)).foldl U0 ((YW (l.take k)).foldl U0 acc) := by
 rw [take_one default l k h, QM, List.foldl_append]
theorem Fb (l acc : List ByteArray) : (l.foldl U0 acc).length <= acc.length + l.length := by
 induction l generalizing acc with
 | nil => simp
 | cons x r ih => rw [List.foldl_cons]; have := ih (U0 acc x); have := FE acc x; simp; omega
theorem Kn {w : World} {v : Value} {l : List ByteArray} (h : Xv w v l) {b off c : Nat} (hv : v = .slice (some ⟨b, off, none⟩) l.length c) (j : Nat) (u : Value) (hu : (strCells l)[j]? = some u) : w.cell? ⟨b, off + j, none⟩ = some u := by
 have hj : j < l.length := by
  have := (List.getElem?_eq_some_iff.1 hu).1
  rwa [strCells_length] at this
 obtain ⟨b', off', c', ha, _, _, hc⟩ := Vj h j hj
 rw [hv] at ha
 have h1 := Option.some.inj (Value.slice.inj ha).1
 injection h1 with h2 h3
 subst h2; subst h3
 rw [hc]
 unfold strCells at hu
 rw [List.getElem?_map] at hu
 rw [<- hu]
 simp [List.getD, hj]
theorem Ct (B : Nat) (caps : Int) (Ze : Int -> Int -> Bool) (x : Z0) : ∀ (loc : Int) (lv : Value) (acc : List ByteArray) (w : World), B <= w.heap.size -> Y0 B w x -> ZI caps Ze loc x = true -> xE w lv acc -> acc.length + YO x <= 100000 ->
 Calls Tryz.prog 46 #[lv, Ws x] w (AB acc (YK x) w) := by
 induction x using Z0.induct with
 | h op n s xv l ih =>
   intro loc lv acc w hBw hx hf hT hsz; rw [ZE]; have SC := Z9 ih; obtain ⟨hr, hm, hy⟩ := hx.parts; have HY := Z9 hy; have HR := Z9 hr; obtain ⟨hfm, hfp⟩ := Za hf; have HFP := Z9 hfp; have hm' : l.length <= 9223372036854775807 := by unfold maxLen at hm; omega
   rw [Wv] at hsz; obtain ⟨a, c, rfl, hlc, _⟩ := hr; have hb1 := YP op n s (.slice a l.length c) w; have gP := ZV w (.cells #[.int .i64 op, .int .i64 n, .string s, .slice a l.length c] 36); obtain ⟨p0, p1, p2, p3⟩ := ZP gP; have HT1 := Z9 (hT.below hb1); have HB1 := Z9 hb1; have WO := Z9 gP; have hsz1 := hb1.size; clear ih hx hy hm gP hb1 hf hfp; by_cases h3 : op = 3
   ·subst h3
    have hl0 := (Sd hfm).1; simp at hl0; obtain ⟨rfl, rfl, _⟩ := hl0; obtain ⟨is0, his, Qc, PK, Qb⟩ := info_parts S9; have hst : YK (.mk 3 0 s (.slice a 0 c) []) = [s] := by rw [YG, ZY rfl]
    rw [show (.slice a ([] : List Z0).length c : Value) = .slice a 0 c from rfl] at *; rw [hst]; have kZ := Z9 (yX lv acc s (w.alloc (.cells #[.int .i64 3, .int .i64 0, .string s, .slice a 0 c] 36)) HT1.out.1 (by omega)); have hfi := yY acc s; obtain ⟨fi, fK⟩ : ∃ fi, Ov acc s = fi := ⟨_, rfl⟩; rw [fK] at kZ hfi; clear fK hst; by_cases hneg : fi < 0
    ·have HA := Z9 (show U0 acc s = acc ++ [s] from by unfold U0; rw [hfi.1.1 hneg]; rfl)
     clear hfi; have hlt3 : fi < 0 := hneg; obtain ⟨ta, tc, rfl, htc, htn⟩ := HT1.out.1; by_cases hac : acc = []
     ·have := HT1.out.2 hac
      subst hac; injection this with h1 h2 h3; subst h1; subst h3; generalize hW : w.alloc (.cells #[.int .i64 3, .int .i64 0, .string s, .slice a 0 c] 36) = W at *; go_in; go_wp2_with fail; refine kZ.out.mono ?_; rintro e w' ⟨rfl, rfl⟩; go_upto_region 2 with fail; go_region_law (refine step_append_grows rfl (.tmp 21) (.tmp 24) 27 rfl 9 is0 (.string ByteArray.empty) 1 16 Tryz.underlying27 his Qc PK Qb rfl (by decide) none 0 0 [] (by simp [Act.eval]) (fun _ => ⟨rfl, rfl⟩) rfl (by nofun) ⟨W.heap.size, 0, none⟩ 1 1 [.string s] (by simp [Act.eval]) rfl (World.news_of_block (cs := #[.string s]) (show _ = _ from ZV W _)) (fun u hu => by simp at hu; subst hu; rfl) (by decide) (by unfold maxLen; decide) (by decide) ?_; intro v' w' hown hgrow); have hgw := both (both (Z8 W (.cells #[.string s] 9)) (Z4 _)) hgrow; have HTF : Hid (xE w' v' (([] : List ByteArray) ++ [s])) := ⟨by have := Xn hown; unfold Xv; rw [VN, List.length_append, List.length_singleton]; exact this, fun e => by simp at e⟩; have gPf := (hgw.block _ (Z6 WO.out) (by nofun)).trans WO.out; have qy := Z9 (HB1.out.trans (ZX (B := w.heap.size) hgw HB1.out.size (by nofun))); clear p0 p1 p2 p3 hgw hown hgrow; obtain ⟨p0, p1, p2, p3⟩ := ZP gPf; go_wp2_with fail; go_loop [0, 5] (fun v i => v = v' /\ i = .int .i64 0) (fun _ _ => 0)
      case atStart => exact ⟨rfl, rfl⟩
      case round =>
       obtain ⟨rfl, rfl⟩ := hrel; go_wp2; go_ret; exact ⟨_, rfl, by rw [List.foldl_cons, List.foldl_nil, HA.out]; exact HTF.out, qy.out⟩
     ·obtain ⟨tb, FJ, rfl, htb, kY⟩ := htn (List.length_pos_iff.2 hac)
      have La := Z9 (fun (j : Nat) (u : Value) (hu : (strCells acc)[j]? = some u) => Kn HT1.out.1 rfl j u hu); clear kY; generalize hW : w.alloc (.cells #[.int .i64 3, .int .i64 0, .string s, .slice a 0 c] 36) = W at *; have kX := Z9 (fun (j : Nat) (u : Value) (hu : (strCells acc)[j]? = some u) => show (W.alloc (.cells #[.string s] 9)).drew.cell? ((⟨tb, FJ, none⟩ : Addr).add j) = some u from by
       have h1 := La.out j u hu; have h2 : (W.alloc (.cells #[.string s] 9)).drew.heap[tb]? = W.heap[tb]? := (Z8 W (.cells #[.string s] 9)).block tb htb (by nofun); have h3 : (⟨tb, FJ, none⟩ : Addr).add j = ⟨tb, FJ + j, none⟩ := by rcases j with _ | j <;> simp [Addr.add]
       rw [h3]; unfold World.cell? at h1 ⊢; rw [h2]; exact h1)
      go_in; go_wp2_with fail; refine kZ.out.mono ?_; rintro e w' ⟨rfl, rfl⟩; go_upto_region 2 with fail; go_region_law (refine step_append_grows rfl (.tmp 21) (.tmp 24) 27 rfl 9 is0 (.string ByteArray.empty) 1 16 Tryz.underlying27 his Qc PK Qb rfl (by decide) (some ⟨tb, FJ, none⟩) acc.length acc.length (strCells acc) (by simp [Act.eval]) (by nofun) (by rw [strCells_length, Nat.mul_one]) (fun b hb j u hu => by cases hb; exact kX.out j u hu) ⟨W.heap.size, 0, none⟩ 1 1 [.string s] (by simp [Act.eval]) rfl (World.news_of_block (cs := #[.string s]) (show _ = _ from ZV W _)) (fun u hu => by simp at hu; subst hu; rfl) (Nat.lt_succ_self _) (by unfold maxLen; omega) (by omega) ?_; intro v' w' hown hgrow); have hgw := both (both (Z8 W (.cells #[.string s] 9)) (Z4 _)) hgrow; have HTF : Hid (xE w' v' (acc ++ [s])) := ⟨by have := Xn hown; unfold Xv; rw [VN, List.length_append, List.length_singleton]; exact this, fun e => by simp at e⟩; have gPf := (hgw.block _ (Z6 WO.out) (by nofun)).trans WO.out; have qy := Z9 (HB1.out.trans (ZX (B := w.heap.size) hgw HB1.out.size (by nofun))); clear p0 p1 p2 p3 hgw hown hgrow; obtain ⟨p0, p1, p2, p3⟩ := ZP gPf; go_wp2_with fail; go_loop [0, 5] (fun v i => v = v' /\ i = .int .i64 0) (fun _ _ => 0)
      case atStart => exact ⟨rfl, rfl⟩
      case round =>
       obtain ⟨rfl, rfl⟩ := hrel; go_wp2; go_ret; exact ⟨_, rfl, by rw [List.foldl_cons, List.foldl_nil, HA.out]; exact HTF.out, qy.out⟩
    ·have HA := Z9 (show U0 acc s = acc from by
      unfold U0; cases hf : (X5 acc s).isSome
      ·exact absurd (hfi.1.2 hf) hneg
      ·rfl)
     clear hfi; generalize hW : w.alloc (.cells #[.int .i64 3, .int .i64 0, .string s, .slice a 0 c] 36) = W at *; go_in; go_wp2_with fail; refine kZ.out.mono ?_; rintro e w' ⟨rfl, rfl⟩; go_wp2_with fail; go_loop [0, 5] (fun v i => v = lv /\ i = .int .i64 0) (fun _ _ => 0)
     case atStart => exact ⟨rfl, rfl⟩
     case round =>
      obtain ⟨rfl, rfl⟩ := hrel; go_wp2; go_ret; exact ⟨_, rfl, by rw [List.foldl_cons, List.foldl_nil, HA.out]; exact HT1.out, HB1.out⟩
   ·have hst : YK (.mk op n s (.slice a l.length c) l) = YW l := by rw [YG, Z7 h3]
    rw [hst]; clear hst; have h3' : (op == 3) = false := Zt h3; have h3n : ¬ op = 3 := h3; generalize hW : w.alloc (.cells #[.int .i64 op, .int .i64 n, .string s, .slice a l.length c] 36) = W at *; have IY := Z9 (Below.refl W.heap.size W); go_in; go_wp2_with fail; go_loopw [0, 5] (fun lv i wr => ∃ (k : Nat), k <= l.length /\ i = .int .i64 k /\ Hid (xE wr lv ((YW (l.take k)).foldl U0 acc)) /\ Hid (Below w.heap.size w wr) /\ Hid (Below W.heap.size W wr)) (fun _ i _ => l.length - (intOf i).toNat)
    case atStart => exact ⟨0, Nat.zero_le _, rfl, by rw [List.take_zero, X0]; exact HT1, HB1, IY⟩
    case round =>
     obtain ⟨k, hk, rfl, HO, HB, qp⟩ := hrel; have Qd := (qp.out.block _ (Z6 WO.out)).trans WO.out; clear p0 p1 p2 p3; obtain ⟨p0, p1, p2, p3⟩ := ZP Qd; by_cases hkl : k < l.length
     ·have Rx := HB.out.mono hBw
      obtain ⟨b, off, rfl, vK, c0, c1, c2, c3⟩ := XY HR.out Rx k hkl; have hmem := Zr default l k hkl; have HT := Z9 (JK l acc k hkl); have hyk := (HY.out _ hmem).under Rx; have hih := SC.out _ hmem; have hlen : ((YW (l.take k)).foldl U0 acc).length + YO (l.getD k default) <= 100000 := by
       have h0 := Fb (YW (l.take k)) acc; have h1 := Un (l.take k) fun y _ => Tg y
       have h2 := V8 l (k + 1); rw [take_one default l k hkl, VB] at h2; omega
      have R4 := HFP.out k hkl; clear hmem; generalize l.getD k default = x at *; obtain ⟨xo, xn, xs, xv, xl⟩ := x; obtain ⟨xa, xc, hxv, _⟩ := hyk.parts.1; subst hxv; simp only [Z0.op, Z0.n, Z0.s, Z0.lv] at c0 c1 c2 c3; have HM := Z9 (hih _ u0 _ wr (by have := HB.out.size; omega) hyk R4 HO.out hlen); rw [ZE] at HM; clear hih hyk R4 hlen Qd Rx; go_wp2_with fail; refine HM.out.mono ?_; rintro e w2 ⟨lv2, rfl, hO2, hb4⟩; have HO2 : Hid (xE w2 lv2 ((YW (l.take (k + 1))).foldl U0 acc)) := by rw [HT.out]; exact hO2
      have HB3 := Z9 (HB.out.trans (hb4.mono HB.out.size)); have HB4 := Z9 (qp.out.trans (hb4.mono qp.out.size)); clear hO2 hb4 HM c0 c1 c2 c3 p0 p1 p2 p3; go_wp2_with fail; go_roundw
      case rel => exact ⟨k + 1, by omega, by go_num, HO2, HB3, HB4⟩
      case measure => simp [intOf]; omega
     ·have hO2 := HO.out
      rw [List.take_of_length_le (by omega)] at hO2; have HO3 := Z9 hO2; clear hO2; go_wp2; go_ret; exact ⟨_, rfl, HO3.out, HB.out⟩
theorem Ir (B : Nat) (fv : Value) (fl : List ZJ) (w : World) (hF : Xh B w fv fl) (hBw : B <= w.heap.size) (hfun : ∀ f ∈ fl, V6 (YM fl) f = true) (hs : Uz fl <= 600) :
 Calls Tryz.prog 20 #[fv] w (AB [] (allT fl) w) := by
 have hm' : fl.length <= 9223372036854775807 := by have := hF.2.1; unfold maxLen at this; omega
 have HF := Z9 hF
 have Mj := Z9 hfun
 have HB0 := Z9 (Below.refl w.heap.size w)
 have HT0 : Hid (xE w (.slice none 0 0) []) := ⟨(Tn.nil w 0).texts, fun _ => rfl⟩
 obtain ⟨⟨a, c, rfl, hlc, _⟩, _⟩ := hF
 clear hfun
 go_in
 go_wp2_with fail
 go_loopw [3, 4] (fun v i wr => ∃ k : Nat, k <= fl.length /\ i = .int .i64 k /\ Hid (xE wr v ((YW ((fl.map ZJ.body).take k)).foldl U0 [])) /\ Hid (Below w.heap.size w wr)) (fun _ i _ => fl.length - (intOf i).toNat)
 case atStart => exact ⟨0, Nat.zero_le _, rfl, by rw [List.take_zero, X0]; exact HT0, HB0⟩
 case round =>
  obtain ⟨k, hk, rfl, HT, HB⟩ := hrel; by_cases hkl : k < fl.length
  ·have KA := HF.out.under (HB.out.mono hBw)
   obtain ⟨b, off, c', ha, _, Rx, c0, c1, c2, c3, c4⟩ := VT KA.1 k hkl; obtain rfl := (Value.slice.inj ha).1; have hmem := Zr default fl k hkl; have hxk := KA.2.2 _ hmem; have R4 := Mj.out _ hmem; have hfx : ZI (fl.getD k default).caps (YM fl) 1 (fl.getD k default).body = true := by unfold V6 at R4; rw [Bool.and_eq_true] at R4; exact R4.2
   have hkm : k < (fl.map ZJ.body).length := by simpa using hkl
   have HTK := Z9 (JK (fl.map ZJ.body) [] k hkm); rw [show (fl.map ZJ.body).getD k default = (fl.getD k default).body by simp [List.getD, hkl]] at HTK; have hlen : ((YW ((fl.map ZJ.body).take k)).foldl U0 []).length + YO (fl.getD k default).body <= 100000 := by
    have h0 := Fb (YW ((fl.map ZJ.body).take k)) []; have h1 := Un ((fl.map ZJ.body).take k) fun y _ => Tg y
    have h2 := V8 (fl.map ZJ.body) (k + 1); rw [JL fl k hkl, VB] at h2; unfold Uz at hs; simp at h0; omega
   have HX := Z9 (Ct B _ (YM fl) (fl.getD k default).body 1 u3 _ wr (by have := HB.out.size; omega) hxk hfx HT.out hlen); clear ha hmem R4 hfx hlen hkm; generalize fl.getD k default = f at *; obtain ⟨caps, ⟨xo, xn, xs, xv, xl⟩⟩ := f; obtain ⟨xa, xc, hxv, _⟩ := hxk.parts.1; subst hxv; simp only [Z0.op, Z0.n, Z0.s, Z0.lv] at c0 c1 c2 c3 c4; rw [ZE] at HX; clear hxk KA; go_wp2_with fail; refine HX.out.mono ?_; rintro e w2 ⟨v2, rfl, hT2, hb2⟩; have HT2 : Hid (xE w2 v2 ((YW ((fl.map ZJ.body).take (k + 1))).foldl U0 [])) := by rw [HTK.out]; exact hT2
   have HB2 := Z9 (HB.out.trans (hb2.mono HB.out.size)); clear hT2 hb2 HX c0 c1 c2 c3 c4; go_wp2_with fail; go_roundw
   case rel => exact ⟨k + 1, by omega, by go_num, HT2, HB2⟩
   case measure => simp [intOf]; omega
  ·have hT2 := HT.out
   rw [List.take_of_length_le (by simp; omega)] at hT2; have HT2 := Z9 hT2; clear hT2; go_wp2; go_ret; exact ⟨_, rfl, HT2.out, HB.out⟩
def Rl (fl : List ZJ) (main : Int) : Int := if XI fl main = true then Rm (dedup (allT fl)) else 1
theorem Iq (B : Nat) (fv : Value) (fl : List ZJ) (main : Int) (w : World) (hF : Xh B w fv fl) (hBw : B <= w.heap.size) (hfit : Fit fl) :
 Calls Tryz.prog 6 #[fv, .int .i64 main] w fun e w' => e = .returned (.int .i64 (Rl fl main)) /\ Below w.heap.size w w' := by
 obtain ⟨hfl, hfs, hfh⟩ := hfit
 have hsz : ∀ f ∈ fl, YO f.body <= 600 /\ Y5 f.body <= 211 := fun f hf => ⟨by
  have : YO f.body <= Yv (fl.map ZJ.body) := RS (List.mem_map_of_mem hf); unfold Uz at hfs; omega, hfh f hf⟩
 have HV := Z9 (Fg B fv fl main w hF hBw hsz)
 have HF := Z9 hF
 obtain ⟨bb, hbb⟩ : ∃ bb, XI fl main = bb := ⟨_, rfl⟩
 have VU := Z9 hbb
 rw [hbb] at HV
 clear hbb hF
 cases bb
 ·have rC := Z9 (show Rl fl main = 1 from by unfold Rl; rw [VU.out]; rfl)
  go_in; go_wp2_with fail; refine HV.out.mono ?_; rintro e w2 ⟨rfl, hb2⟩; have HB2 := Z9 hb2; clear hb2; go_wp2; go_ret; exact ⟨by rw [rC.out]; rfl, HB2.out⟩
 ·have rC := Z9 (show Rl fl main = Rm (dedup (allT fl)) from by unfold Rl; rw [VU.out]; rfl)
  obtain ⟨_, _, _, _, _, hfun⟩ := U3 VU.out; have Fz := Z9 hfun; have HSM := Z9 (fun (s : ByteArray) (hs : s ∈ dedup (allT fl)) => NC hfun s (NA hs)); have hdl := NG (allT fl); have htl : (allT fl).length <= 600 := by
   have := Un (fl.map ZJ.body) fun y _ => Tg y
   unfold Uz at hfs; unfold allT; omega
  clear hfun; go_in; go_wp2_with fail; refine HV.out.mono ?_; rintro e w2 ⟨rfl, hb2⟩; have HB2 := Z9 hb2; have HA := Z9 (Ir B fv fl w2 (HF.out.under (hb2.mono hBw)) (by have := hb2.size; omega) Fz.out hfs); clear hb2 HV; go_wp2_with fail; refine HA.out.mono ?_; rintro e w3 ⟨v3, rfl, hT3, hb3⟩; have HB3 := Z9 (HB2.out.trans (hb3.mono HB2.out.size)); have HX := Z9 (Cu v3 (dedup (allT fl)) w3 hT3.1 (by omega) HSM.out); clear hT3 hb3 HA; go_wp2_with fail; refine HX.out.mono ?_; rintro e w' ⟨rfl, rfl⟩; go_wp2; go_ret; exact ⟨by rw [rC.out]; rfl, HB3.out⟩
end Go.Proofs.YtbcfdebdikgijaaGreatDoor
