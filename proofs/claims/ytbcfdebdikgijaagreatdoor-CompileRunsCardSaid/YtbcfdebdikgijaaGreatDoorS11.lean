/- Part of the proof; its texts: Cr3. -/
import Derived.Test.YtbcfdebdikgijaaGreatDoorS3
set_option maxRecDepth 100000
set_option linter.unusedVariables false
set_option linter.unusedSimpArgs false
set_option maxHeartbeats 2000000
namespace Go.Proofs.YtbcfdebdikgijaaGreatDoor
open Go Go.RowKit
theorem Zq (op : Int) (w : World) : Calls Tryz.prog 59 #[.int .i64 op] w fun e w' => e = .returned (.int .i64 (Y8 op)) /\ w = w' := by
 go_in
 go_wp2
 all_goals
  go_ret; refine ⟨Wi ?_, rfl⟩; simp only [beq_iff_eq, beq_eq_false_iff_ne, ne_eq] at *; unfold Y8
  repeat' split
  all_goals omega
theorem uY (x : Int) : decide (0 < ZA x) = Y7 x 1 14 := by
 have h := NT x
 cases hb : Y7 x 1 14
 ·rw [h.2 hb]; rfl
 ·have := (Tj x).2 hb
  exact decide_eq_true (by omega)
theorem CW (l : List Ins) (j : Nat) (h : j < l.length) (ha : (l.take j).all (fun i => i.op == 14) = true) (hx : (l.getD j default).op = 14) : (l.take (j + 1)).all (fun i => i.op == 14) = true := by
 rw [List.take_succ_eq_append_getElem h, List.all_append, ha]
 simp [List.getD, h] at hx
 simp [hx]
theorem zF (l : List Ins) (j : Nat) (h : j < l.length) (hx : (l.getD j default).op ≠ 14) : l.all (fun i => i.op == 14) = false := by
 rw [List.all_eq_false]
 refine ⟨l.getD j default, Zr default l j h, by simpa using hx⟩
theorem uX (l : List Ins) (a m j : Nat) (h : j < m) : ((l.drop a).take m).getD j default = l.getD (a + j) default := by
 simp only [List.getD_eq_getElem?_getD, List.getElem?_take, h, if_true, List.getElem?_drop]
theorem CV (fv : Value) (fs : List WU) (ta : Option Addr) (nt tc : Nat) (main : Int) (c l d : Int) (cv : Value) (code : List Ins) (k : Nat) (w : World)
 (hf : Tc w fv fs) (hfl : fs.length <= 1000000) (hnt : nt <= 1000000) (hc0 : 0 <= c) (hc1 : c <= 1000) (hl0 : 1 <= l) (hl1 : l <= 4096)
 (h : VE w cv code) (hl : code.length <= 1000000) (hk : k < code.length) :
 Calls Tryz.prog 28 #[.agg #[fv, .slice ta nt tc, .int .i64 main], .agg #[.int .i64 c, .int .i64 l, .int .i64 d, cv], .int .i64 k] w (qV (Uw nt fs c l code k) w) := by
 obtain ⟨a, cc, rfl, hlc, hcell⟩ := h
 obtain ⟨b, off, rfl, hlt, hc⟩ := hcell (by omega)
 obtain ⟨c0, c1, c2⟩ := T9 code k hk
 have hlen := Vf code
 have e0 := hc (k * 3) (by omega)
 have e1 := hc (k * 3 + 1) (by omega)
 have e2 := hc (k * 3 + 2) (by omega)
 rw [c0] at e0; rw [c1, <- Nat.add_assoc] at e1; rw [c2, <- Nat.add_assoc] at e2
 obtain ⟨i, hi⟩ : ∃ i, i = code.getD k default := ⟨_, rfl⟩
 rw [<- hi] at e0 e1 e2
 have Hi := Z9 hi
 obtain ⟨op, x, y⟩ := i
 simp only at e0 e1 e2
 have Hcc := Z9 hc
 have Hf := Z9 hf
 clear hcell hc c0 c1 c2 hlen hi hf
 obtain ⟨⟨fa, fc, rfl, hfc, _⟩, _⟩ := Hf.out
 go_in
 go_wp2_with fail
 have hB3 : Below w.heap.size w (((w.alloc (.cells #[.slice fa fs.length fc, .slice ta nt tc, .int .i64 main] 29)).alloc (.cells #[.int .i64 c, .int .i64 l, .int .i64 d, .slice (some ⟨b, off, none⟩) code.length cc] 53)).alloc (.cells #[.int .i64 op, .int .i64 x, .int .i64 y] 59)) := (((Below.refl _ _).alloc (Nat.le_refl _) _).alloc (by simp) _).alloc (by simp; omega) _
 have hs3 : w.heap.size + 3 = (((w.alloc (.cells #[.slice fa fs.length fc, .slice ta nt tc, .int .i64 main] 29)).alloc (.cells #[.int .i64 c, .int .i64 l, .int .i64 d, .slice (some ⟨b, off, none⟩) code.length cc] 53)).alloc (.cells #[.int .i64 op, .int .i64 x, .int .i64 y] 59)).heap.size := by simp
 have g1 : (((w.alloc (.cells #[.slice fa fs.length fc, .slice ta nt tc, .int .i64 main] 29)).alloc (.cells #[.int .i64 c, .int .i64 l, .int .i64 d, .slice (some ⟨b, off, none⟩) code.length cc] 53)).alloc (.cells #[.int .i64 op, .int .i64 x, .int .i64 y] 59)).heap[w.heap.size]? = some (.cells #[.slice fa fs.length fc, .slice ta nt tc, .int .i64 main] 29) := Me w _ _ _
 have g2 : (((w.alloc (.cells #[.slice fa fs.length fc, .slice ta nt tc, .int .i64 main] 29)).alloc (.cells #[.int .i64 c, .int .i64 l, .int .i64 d, .slice (some ⟨b, off, none⟩) code.length cc] 53)).alloc (.cells #[.int .i64 op, .int .i64 x, .int .i64 y] 59)).heap[w.heap.size + 1]? = some (.cells #[.int .i64 c, .int .i64 l, .int .i64 d, .slice (some ⟨b, off, none⟩) code.length cc] 53) := by
  rw [Below.heap_alloc _ _ _ (by simp)]; exact (congrArg _ (by simp)).trans (ZV (w.alloc (.cells #[.slice fa fs.length fc, .slice ta nt tc, .int .i64 main] 29)) _)
 have g3 : (((w.alloc (.cells #[.slice fa fs.length fc, .slice ta nt tc, .int .i64 main] 29)).alloc (.cells #[.int .i64 c, .int .i64 l, .int .i64 d, .slice (some ⟨b, off, none⟩) code.length cc] 53)).alloc (.cells #[.int .i64 op, .int .i64 x, .int .i64 y] 59)).heap[w.heap.size + 1 + 1]? = some (.cells #[.int .i64 op, .int .i64 x, .int .i64 y] 59) := (congrArg _ (by simp)).trans (ZV ((w.alloc (.cells #[.slice fa fs.length fc, .slice ta nt tc, .int .i64 main] 29)).alloc (.cells #[.int .i64 c, .int .i64 l, .int .i64 d, .slice (some ⟨b, off, none⟩) code.length cc] 53)) _)
 generalize (((w.alloc (.cells #[.slice fa fs.length fc, .slice ta nt tc, .int .i64 main] 29)).alloc (.cells #[.int .i64 c, .int .i64 l, .int .i64 d, .slice (some ⟨b, off, none⟩) code.length cc] 53)).alloc (.cells #[.int .i64 op, .int .i64 x, .int .i64 y] 59)) = W at hB3 hs3 g1 g2 g3 ⊢
 refine (xB _ _).mono ?_
 rintro e wc ⟨rfl, hB4⟩
 have Sc : ∀ (q o : Nat) (v : Value), q < W.heap.size -> W.cell? ⟨q, o, none⟩ = some v -> wc.cell? ⟨q, o, none⟩ = some v := fun q o v hq hv => (hB4.cell (p := ⟨q, o, none⟩) hq).trans hv
 have i0 : wc.cell? ⟨w.heap.size + 1 + 1, 0, none⟩ = some (.int .i64 op) := Sc _ _ _ (by omega) (by simp [World.cell?, g3])
 have i1 : wc.cell? ⟨w.heap.size + 1 + 1, 1, none⟩ = some (.int .i64 x) := Sc _ _ _ (by omega) (by simp [World.cell?, g3])
 have i2 : wc.cell? ⟨w.heap.size + 1 + 1, 2, none⟩ = some (.int .i64 y) := Sc _ _ _ (by omega) (by simp [World.cell?, g3])
 have f0 : wc.cell? ⟨w.heap.size + 1, 0, none⟩ = some (.int .i64 c) := Sc _ _ _ (by omega) (by simp [World.cell?, g2])
 have f1 : wc.cell? ⟨w.heap.size + 1, 1, none⟩ = some (.int .i64 l) := Sc _ _ _ (by omega) (by simp [World.cell?, g2])
 have f3 : wc.cell? ⟨w.heap.size + 1, 3, none⟩ = some (.slice (some ⟨b, off, none⟩) code.length cc) := Sc _ _ _ (by omega) (by simp [World.cell?, g2])
 have p0 : wc.cell? ⟨w.heap.size, 0, none⟩ = some (.slice fa fs.length fc) := Sc _ _ _ (by omega) (by simp [World.cell?, g1])
 have p1 : wc.cell? ⟨w.heap.size, 1, none⟩ = some (.slice ta nt tc) := Sc _ _ _ (by omega) (by simp [World.cell?, g1])
 have hB : Below w.heap.size w wc := hB3.trans (hB4.mono (by omega))
 have nZ := Z9 Sc
 clear Sc hB4 g1 g2 g3 e0 e1 e2
 have Hr : Hid (Uw nt fs c l code k = Zo nt fs c l code k ⟨op, x, y⟩) := by show _ = _; rw [NQ, <- Hi.out]
 obtain ⟨bb, hbb⟩ : ∃ bb, Zb op = bb := ⟨_, rfl⟩
 cases bb
 ·have ht : Hid (Uw nt fs c l code k = false) := by
   show _ = _; rw [Hr.out]; unfold Zo; simp only [hbb, if_true]
  rw [Jl op hbb]; clear hbb; go_wp2; go_ret; exact ⟨by rw [ht.out]; rfl, hB⟩
 ·have hwd := D8 op hbb
  generalize Pf op = wd at *; have hkn := hbb; clear hbb; rcases Pj op with rfl | rfl | rfl | rfl | rfl | rfl | rfl | rfl | rfl | rfl | rfl | rfl | rfl | rfl | rfl | rfl | hno; rotate_left 16
  ·exfalso; unfold Zb Y7 at hkn; simp at hkn; omega
  ·
   clear hkn; go_wp2_with fail; refine (Zq _ _).mono ?_; rintro e w' ⟨rfl, rfl⟩; rw [show Y8 1 = 1 from rfl]; by_cases hy : y = 0
   ·subst hy
    go_wp2_with fail; refine (Zq _ _).mono ?_; rintro e w' ⟨rfl, rfl⟩; rw [show Y8 1 = 1 from rfl]; go_wp2_with fail; refine (XC _ _ _ _).mono ?_; rintro e w' ⟨rfl, rfl⟩; go_wp2; go_ret; exact ⟨by rw [Hr.out]; simp [Zo, Y8, Zb]; simp [Y7], hB⟩
   ·go_wp2
    go_ret; exact ⟨by rw [Hr.out]; simp [Zo, Y8, hy], hB⟩
  ·
   clear hkn; go_wp2_with fail; refine (Zq _ _).mono ?_; rintro e w' ⟨rfl, rfl⟩; rw [show Y8 2 = 1 from rfl]; by_cases hy : y = 0
   ·subst hy
    go_wp2_with fail; refine (Zq _ _).mono ?_; rintro e w' ⟨rfl, rfl⟩; rw [show Y8 2 = 1 from rfl]; go_wp2_with fail; refine (XC _ _ _ _).mono ?_; rintro e w' ⟨rfl, rfl⟩; go_wp2; go_ret; exact ⟨by rw [Hr.out]; simp [Zo, Y8, Zb]; simp [Y7], hB⟩
   ·go_wp2
    go_ret; exact ⟨by rw [Hr.out]; simp [Zo, Y8, hy], hB⟩
  ·
   clear hkn; go_wp2_with fail; refine (Zq _ _).mono ?_; rintro e w' ⟨rfl, rfl⟩; rw [show Y8 3 = 1 from rfl]; by_cases hy : y = 0
   ·subst hy
    go_wp2_with fail; refine (Zq _ _).mono ?_; rintro e w' ⟨rfl, rfl⟩; rw [show Y8 3 = 1 from rfl]; go_wp2_with fail; refine (XC _ _ _ _).mono ?_; rintro e w' ⟨rfl, rfl⟩; go_wp2; go_ret; exact ⟨by rw [Hr.out]; simp [Zo, Y8, Zb]; simp [Y7], hB⟩
   ·go_wp2
    go_ret; exact ⟨by rw [Hr.out]; simp [Zo, Y8, hy], hB⟩
  ·
   clear hkn; go_wp2_with fail; refine (Zq _ _).mono ?_; rintro e w' ⟨rfl, rfl⟩; rw [show Y8 4 = 1 from rfl]; by_cases hy : y = 0
   ·subst hy
    go_wp2_with fail; refine (Zq _ _).mono ?_; rintro e w' ⟨rfl, rfl⟩; rw [show Y8 4 = 1 from rfl]; go_wp2_with fail; refine (XC _ _ _ _).mono ?_; rintro e w' ⟨rfl, rfl⟩; go_wp2; go_ret; exact ⟨by rw [Hr.out]; simp [Zo, Y8, Zb]; simp [Y7], hB⟩
   ·go_wp2
    go_ret; exact ⟨by rw [Hr.out]; simp [Zo, Y8, hy], hB⟩
  ·
   clear hkn; go_wp2_with fail; refine (Zq _ _).mono ?_; rintro e w' ⟨rfl, rfl⟩; rw [show Y8 5 = 1 from rfl]; by_cases hy : y = 0
   ·subst hy
    go_wp2_with fail; refine (Zq _ _).mono ?_; rintro e w' ⟨rfl, rfl⟩; rw [show Y8 5 = 1 from rfl]; go_wp2_with fail; refine (XC _ _ _ _).mono ?_; rintro e w' ⟨rfl, rfl⟩; go_wp2; go_ret; exact ⟨by rw [Hr.out]; simp [Zo, Y8, Zb]; simp [Y7], hB⟩
   ·go_wp2
    go_ret; exact ⟨by rw [Hr.out]; simp [Zo, Y8, hy], hB⟩
  ·
   clear hkn; go_wp2_with fail; refine (Zq _ _).mono ?_; rintro e w' ⟨rfl, rfl⟩; rw [show Y8 6 = 0 from rfl]; by_cases hy : y = 0
   ·subst hy
    go_wp2_with fail; refine (Zq _ _).mono ?_; rintro e w' ⟨rfl, rfl⟩; rw [show Y8 6 = 0 from rfl]; by_cases hx : x = 0
    ·subst hx
     go_wp2; go_ret; exact ⟨by rw [Hr.out]; simp [Zo, Y8, Zb, Y7], hB⟩
    ·go_wp2
     go_ret; exact ⟨by rw [Hr.out]; simp [Zo, Y8, hx], hB⟩
   ·go_wp2
    go_ret; exact ⟨by rw [Hr.out]; simp [Zo, Y8, hy], hB⟩
  ·
   clear hkn; go_wp2_with fail; refine (Zq _ _).mono ?_; rintro e w' ⟨rfl, rfl⟩; rw [show Y8 7 = 2 from rfl]; go_wp2_with fail; refine (Zq _ _).mono ?_; rintro e w' ⟨rfl, rfl⟩; rw [show Y8 7 = 2 from rfl]; obtain ⟨bb, hbb⟩ : ∃ bb, Y7 x 0 ((fs.length : Int) - 1) = bb := ⟨_, rfl⟩; have VU := Z9 hbb; cases bb
   ·go_upto_region 15 with fail
    go_quiet ((go_at_call 26; exact Calls.quiet_of_same ((XC _ _ _ _).mono fun _ _ h => ⟨by rw [h.1, hbb], h.2.symm⟩))); go_wp2; go_ret; exact ⟨by rw [Hr.out]; simp [Zo, Y8, Zb, VU.out] <;> simp [Y7], UY hB _⟩
   ·have hx0 : 0 <= x /\ x <= (fs.length : Int) - 1 := by simpa [Y7] using hbb
    obtain ⟨n, rfl⟩ := Int.eq_ofNat_of_zero_le hx0.1; have hn : n < fs.length := by omega
    obtain ⟨fb, fo, fc', fd, _, fe, ff, _⟩ := Hf.out.at' n hn; obtain rfl := (Value.slice.inj fd).1; have ff' := nZ.out _ _ _ (by have := hB3.size; omega) ((hB3.cell (p := ⟨fb, fo + n * 4, none⟩) fe).trans ff); generalize hcf : (fs.getD n default).c = cf at *; have Hcf := Z9 hcf; clear hcf ff fd hx0; go_upto_region 15 with fail; go_quiet ((go_at_call 26; exact Calls.quiet_of_same ((XC _ _ _ _).mono fun _ _ h => ⟨by rw [h.1, hbb], h.2.symm⟩))); go_wp2; go_ret; exact ⟨by rw [Hr.out]; simp only [Zo, Y8, Zb, VU.out, Int.toNat_natCast, Hcf.out]; simp [Y7]; exact Bu _ _, UY hB _⟩
  ·
   clear hkn; go_wp2_with fail; refine (Zq _ _).mono ?_; rintro e w' ⟨rfl, rfl⟩; rw [show Y8 8 = 0 from rfl]; by_cases hy : y = 0
   ·subst hy
    go_wp2_with fail; refine (Zq _ _).mono ?_; rintro e w' ⟨rfl, rfl⟩; rw [show Y8 8 = 0 from rfl]; by_cases hx : x = 0
    ·subst hx
     go_wp2; go_ret; exact ⟨by rw [Hr.out]; simp [Zo, Y8, Zb, Y7], hB⟩
    ·go_wp2
     go_ret; exact ⟨by rw [Hr.out]; simp [Zo, Y8, hx], hB⟩
   ·go_wp2
    go_ret; exact ⟨by rw [Hr.out]; simp [Zo, Y8, hy], hB⟩
  ·
   clear hkn; go_wp2_with fail; refine (Zq _ _).mono ?_; rintro e w' ⟨rfl, rfl⟩; rw [show Y8 9 = 0 from rfl]; by_cases hy : y = 0
   ·subst hy
    go_wp2_with fail; refine (Zq _ _).mono ?_; rintro e w' ⟨rfl, rfl⟩; rw [show Y8 9 = 0 from rfl]; by_cases hx : x = 0
    ·subst hx
     go_wp2; go_ret; exact ⟨by rw [Hr.out]; simp [Zo, Y8, Zb, Y7], hB⟩
    ·go_wp2
     go_ret; exact ⟨by rw [Hr.out]; simp [Zo, Y8, hx], hB⟩
   ·go_wp2
    go_ret; exact ⟨by rw [Hr.out]; simp [Zo, Y8, hy], hB⟩
  ·
   clear hkn; go_wp2_with fail; refine (Zq _ _).mono ?_; rintro e w' ⟨rfl, rfl⟩; rw [show Y8 10 = 1 from rfl]; by_cases hy : y = 0
   ·subst hy
    go_wp2_with fail; refine (Zq _ _).mono ?_; rintro e w' ⟨rfl, rfl⟩; rw [show Y8 10 = 1 from rfl]; go_wp2_with fail; refine (XC _ _ _ _).mono ?_; rintro e w' ⟨rfl, rfl⟩; go_wp2; go_ret; exact ⟨by rw [Hr.out]; simp [Zo, Y8, Zb]; simp [Y7], hB⟩
   ·go_wp2
    go_ret; exact ⟨by rw [Hr.out]; simp [Zo, Y8, hy], hB⟩
  ·
   clear hkn; go_wp2_with fail; refine (Zq _ _).mono ?_; rintro e w' ⟨rfl, rfl⟩; rw [show Y8 11 = 1 from rfl]; by_cases hy : y = 0
   ·subst hy
    go_wp2_with fail; refine (Zq _ _).mono ?_; rintro e w' ⟨rfl, rfl⟩; rw [show Y8 11 = 1 from rfl]; go_wp2_with fail; refine (XC _ _ _ _).mono ?_; rintro e w' ⟨rfl, rfl⟩; go_wp2; go_ret; exact ⟨by rw [Hr.out]; simp [Zo, Y8, Zb]; simp [Y7], hB⟩
   ·go_wp2
    go_ret; exact ⟨by rw [Hr.out]; simp [Zo, Y8, hy], hB⟩
  ·
   clear hkn; go_wp2_with fail; refine (Zq _ _).mono ?_; rintro e w' ⟨rfl, rfl⟩; rw [show Y8 12 = 1 from rfl]; by_cases hy : y = 0
   ·subst hy
    go_wp2_with fail; refine (Zq _ _).mono ?_; rintro e w' ⟨rfl, rfl⟩; rw [show Y8 12 = 1 from rfl]; go_wp2_with fail; refine (XC _ _ _ _).mono ?_; rintro e w' ⟨rfl, rfl⟩; go_wp2; go_ret; exact ⟨by rw [Hr.out]; simp [Zo, Y8, Zb]; simp [Y7], hB⟩
   ·go_wp2
    go_ret; exact ⟨by rw [Hr.out]; simp [Zo, Y8, hy], hB⟩
  ·
   clear hkn; go_wp2_with fail; refine (Zq _ _).mono ?_; rintro e w' ⟨rfl, rfl⟩; rw [show Y8 13 = 2 from rfl]; go_wp2_with fail; refine (Zq _ _).mono ?_; rintro e w' ⟨rfl, rfl⟩; rw [show Y8 13 = 2 from rfl]; by_cases hx : 0 <= x /\ x <= l - 1
   ·have Hx : Hid (Y7 x 0 (l - 1) = true) := by show _ = _; simp [Y7, hx]
    by_cases hy : 1 <= y /\ y <= 1000
    ·obtain ⟨m, rfl⟩ := Int.eq_ofNat_of_zero_le (show 0 <= y by omega)
     have Hy : Hid (Y7 (m : Int) 1 1000 = true) := by show _ = _; simp [Y7, hy]
     by_cases hm : k + m < code.length
     ·have Hrr : Hid (Uw nt fs c l code k = ((code.drop (k + 1)).take m).all (fun i => i.op == 14)) := by
       show _ = _
       rw [Hr.out]; simp [Zo, Y8, Zb, Hx.out, Hy.out]; simp [Y7]; intro; omega
      have hls : ((code.drop (k + 1)).take m).length = m := by simp; omega
      go_wp2_with fail; refine (XC _ _ _ _).mono ?_; rintro e w' ⟨rfl, rfl⟩; rw [Hx.out]; go_wp2_with fail; refine (XC _ _ _ _).mono ?_; rintro e w' ⟨rfl, rfl⟩; rw [Hy.out]; go_wp2_with fail; go_loop [8] (fun i => ∃ j : Nat, j <= m /\ i = .int .i64 ((j : Int) + 1) /\ Hid ((((code.drop (k + 1)).take m).take j).all (fun i => i.op == 14) = true)) (fun i => m + 1 - (intOf i).toNat)
      case atStart => exact ⟨0, Nat.zero_le _, rfl, rfl⟩
      case round =>
       obtain ⟨j, hj, rfl, hall⟩ := hrel; by_cases hjl : j < m
       ·obtain ⟨b', off', cc', fd', _, aN, c0, _⟩ := Bw (w := w) (v := .slice (some ⟨b, off, none⟩) code.length cc) (l := code) ⟨_, cc, rfl, hlc, fun _ => ⟨b, off, rfl, hlt, Hcc.out⟩⟩ (k + (j + 1)) (by omega)
        have hee := (Value.slice.inj fd').1; cases hee; have d0 := nZ.out _ _ _ (by have := hB3.size; omega) ((hB3.cell (p := ⟨b, off + (k + (j + 1)) * 3, none⟩) hlt).trans c0); have hsg := uX code (k + 1) m j hjl; have hkj : k + 1 + j = k + (j + 1) := by omega
        rw [hkj] at hsg; rw [<- hsg] at d0; have Hn := Z9 (CW _ j (by omega) hall.out); have Hh := Z9 (zF ((code.drop (k + 1)).take m) j (by omega)); generalize ((code.drop (k + 1)).take m).getD j default = ii at *; obtain ⟨o', x', y'⟩ := ii; simp only at d0; clear c0 fd' hsg; by_cases ho : o' = 14
        ·have hN := Z9 (Hn.out ho)
         subst ho; go_wp2_with fail; go_round
         case rel => exact ⟨j + 1, by omega, by go_num, hN⟩
         case measure => simp [intOf]; omega
        ·have hN := Z9 (Hh.out ho)
         have AV : (o' == 14) = false := Zt ho; go_wp2; go_ret; exact ⟨by rw [Hrr.out, hN.out]; rfl, hB⟩
       ·have JN := hall.out
        rw [List.take_of_length_le (by omega)] at JN; have hA := Z9 JN; clear JN; go_wp2; go_ret; exact ⟨by rw [Hrr.out, hA.out]; rfl, hB⟩
     ·go_wp2_with fail
      refine (XC _ _ _ _).mono ?_; rintro e w' ⟨rfl, rfl⟩; rw [Hx.out]; go_wp2_with fail; refine (XC _ _ _ _).mono ?_; rintro e w' ⟨rfl, rfl⟩; rw [Hy.out]; go_wp2; go_ret; exact ⟨by rw [Hr.out]; simp [Zo, Y8, Zb, Hx.out, Hy.out] <;> simp [Y7] <;> omega, hB⟩
    ·have Hy : Hid (Y7 y 1 1000 = false) := by show _ = _; simp [Y7]; omega
     go_wp2_with fail; refine (XC _ _ _ _).mono ?_; rintro e w' ⟨rfl, rfl⟩; rw [Hx.out]; go_wp2_with fail; refine (XC _ _ _ _).mono ?_; rintro e w' ⟨rfl, rfl⟩; rw [Hy.out]; go_wp2; go_ret; exact ⟨by rw [Hr.out]; simp [Zo, Y8, Zb, Hx.out, Hy.out] <;> simp [Y7], hB⟩
   ·have Hx : Hid (Y7 x 0 (l - 1) = false) := by show _ = _; simp [Y7]; omega
    go_wp2_with fail; refine (XC _ _ _ _).mono ?_; rintro e w' ⟨rfl, rfl⟩; rw [Hx.out]; go_wp2; go_ret; exact ⟨by rw [Hr.out]; simp [Zo, Y8, Zb, Hx.out] <;> simp [Y7], hB⟩
  ·
   clear hkn; go_wp2_with fail; refine (Zq _ _).mono ?_; rintro e w' ⟨rfl, rfl⟩; rw [show Y8 14 = 1 from rfl]; by_cases hy : y = 0
   ·subst hy
    go_wp2_with fail; refine (Zq _ _).mono ?_; rintro e w' ⟨rfl, rfl⟩; rw [show Y8 14 = 1 from rfl]; go_wp2_with fail; refine (XC _ _ _ _).mono ?_; rintro e w' ⟨rfl, rfl⟩; go_wp2; go_ret; exact ⟨by rw [Hr.out]; simp [Zo, Y8, Zb]; simp [Y7], hB⟩
   ·go_wp2
    go_ret; exact ⟨by rw [Hr.out]; simp [Zo, Y8, hy], hB⟩
  ·
   clear hkn; go_wp2_with fail; refine (Zq _ _).mono ?_; rintro e w' ⟨rfl, rfl⟩; rw [show Y8 15 = 1 from rfl]; by_cases hy : y = 0
   ·subst hy
    go_wp2_with fail; refine (Zq _ _).mono ?_; rintro e w' ⟨rfl, rfl⟩; rw [show Y8 15 = 1 from rfl]; go_wp2_with fail; refine (NV _ _).mono ?_; rintro e w' ⟨rfl, rfl⟩; go_wp2; go_ret; exact ⟨(XT (a := decide (0 < ZA x)) (by rw [uY, Hr.out]; simp [Zo, Y8, Zb]; simp [Y7])), hB⟩
   ·go_wp2
    go_ret; exact ⟨by rw [Hr.out]; simp [Zo, Y8, hy], hB⟩
  ·
   clear hkn; go_wp2_with fail; refine (Zq _ _).mono ?_; rintro e w' ⟨rfl, rfl⟩; rw [show Y8 16 = 1 from rfl]; by_cases hy : y = 0
   ·subst hy
    go_wp2_with fail; refine (Zq _ _).mono ?_; rintro e w' ⟨rfl, rfl⟩; rw [show Y8 16 = 1 from rfl]; go_wp2_with fail; refine (XC _ _ _ _).mono ?_; rintro e w' ⟨rfl, rfl⟩; go_wp2; go_ret; exact ⟨by rw [Hr.out]; simp [Zo, Y8, Zb]; simp [Y7], hB⟩
   ·go_wp2
    go_ret; exact ⟨by rw [Hr.out]; simp [Zo, Y8, hy], hB⟩
end Go.Proofs.YtbcfdebdikgijaaGreatDoor
