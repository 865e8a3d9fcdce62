/- Part of the proof; its texts: Ex7 Ex8 Ex8b Ex9. -/
import Derived.Test.YtbcfdebdikgijaaGreatDoorS4
import Derived.Laws.ResultCell
set_option maxRecDepth 100000
set_option linter.unusedVariables false
set_option linter.unusedSimpArgs false
set_option maxHeartbeats 4000000
namespace Go.Proofs.YtbcfdebdikgijaaGreatDoor
open Go Go.RowKit
theorem LQ (sb rb cp k : Nat) (n : Int) (oa na ob nb : Int) (sa sB sh : ByteArray) (w : World) (hs : w.heap[sb]? = some (.cells (st15 0 0) 195 (0, 0)))
 (ha : w.rangeAt rb 0 (Yz oa na sa)) (hb : w.rangeAt rb (k * 25) (Yz ob nb sB)) (hlt : rb < w.heap.size) (hc : k + 1 <= cp) (hk : k = 0 \/ k = 1)
 (hn : n = 1 \/ n = 2 \/ n = 3 \/ n = 4 \/ n = 5 \/ n = 6 \/ n = 7 \/ n = 8 \/ n = 9 \/ n = 10 \/ n = 11 \/ n = 12 \/ n = 13) (hra : -4503599627370496 <= na /\ na <= 4503599627370496) (hrb : -4503599627370496 <= nb /\ nb <= 4503599627370496)
 (hsz : sa.size <= 16384 /\ sB.size <= 16384) (mI : Hid (∀ wx, Calls Tryz.prog 123 #[.int .i64 na] wx fun e w' => e = .returned (.string sh) /\ wx.grownBy w' none)) :
 Calls Tryz.prog 110 #[.pointer (some ⟨sb, 0, none⟩), .int .i64 n, .slice (some ⟨rb, 0, none⟩) (k + 1) cp] w (QU sb (Yo n na nb sa sB sh) w) := by
 have hu := Tryz.underlying176
 have hi : (Tryz.prog.info? 176).map (·.size) = some (Yz oa na sa).length := Zl
 have hi2 : (Tryz.prog.info? 176).map (·.size) = some (Yz ob nb sB).length := Zl
 have k0 : (0 : Int) <= (k : Int) := by omega
 have k1 : (k : Int) <= 1 := by omega
 have k2 : ((k + 1 : Nat) : Int) = (k : Int) + 1 := by omega
 have k3 : (k : Int) < (k : Int) + 1 := by omega
 have k4 : (0 : Int) < (k : Int) + 1 := by omega
 have k6 : IntKind.i64.wrap (k : Int) = (k : Int) := by rw [IntKind.wrap_i64]; omega
 have k5 : (k : Int) + 1 - 1 = (k : Int) := by omega
 go_in
 have r0 : (w.alloc (.cells ZM 176)).rangeAt rb 0 (Yz oa na sa) := World.rangeAt_alloc ha _
 have r1 : (w.alloc (.cells ZM 176)).rangeAt rb (k * 25) (Yz ob nb sB) := World.rangeAt_alloc hb _
 go_wp2_with fail
 go_cut [7, 8] from 17 to 19 (fun v7 v8 wx => ∃ p7 p8 : Nat, v7 = .pointer (some ⟨p7, 0, none⟩) /\ v8 = .pointer (some ⟨p8, 0, none⟩) /\ wx.heap[p7]? = some (.cells (ZB oa na sa (.slice none 0 0)) 176 (0, 0)) /\ wx.heap[p8]? = some (.cells (ZB ob nb sB (.slice none 0 0)) 176 (0, 0)) /\ (w.alloc (.cells ZM 176)).grownBy wx none)
 case first =>
  refine XG (S := fun w' => w'.rangeAt rb 0 (Yz oa na sa) /\ w'.rangeAt rb (k * 25) (Yz ob nb sB)) (by kernel_rfl) ⟨r0, r1⟩ (fun hHeld => ?_); refine wpAnyH_take (i := 0) (v := .slice (some ⟨rb, 0, none⟩) (k + 1) cp) rfl (by kernel_rfl) (by kernel_rfl) (by kernel_rfl) (fun _ _ _ h => h) (Or.inl ⟨by rfl, fun w hSw => ?y0⟩) (by assumption) ?r0
  case y0 => go_simp
  simp only [Act.put, Zj, Zi, Zh]; refine wpAnyH_take (i := 1) (v := .pointer (some ⟨rb, 0, none⟩)) rfl (by kernel_rfl) (by kernel_rfl) (by kernel_rfl) (fun _ _ _ h => h) (Or.inl ⟨by rfl, fun w hSw => ?y1⟩) (by assumption) ?r1
  case y1 => go_simp
  simp only [Act.put, Zj, Zi, Zh]; refine wpAnyH_take (i := 2) (v := _) rfl (by kernel_rfl) (by kernel_rfl) (by kernel_rfl) (fun _ _ _ h => h) (yieldsIf_load_mid (by rfl) 176 _ (by rfl) rb 0 (by rfl) (Yz oa na sa) _ (fun w h => h.1) hu rfl hi) (by assumption) ?_; simp only [Act.put, Zj, Zi, Zh]; refine wpAnyH_take (i := 3) (v := .slice (some ⟨rb, 0, none⟩) (k + 1) cp) rfl (by kernel_rfl) (by kernel_rfl) (by kernel_rfl) (fun _ _ _ h => h) (Or.inl ⟨by rfl, fun w hSw => ?y3⟩) (by assumption) ?r3
  case y3 => go_simp
  simp only [Act.put, Zj, Zi, Zh]; refine wpAnyH_take (i := 4) (v := .slice (some ⟨rb, 0, none⟩) (k + 1) cp) rfl (by kernel_rfl) (by kernel_rfl) (by kernel_rfl) (fun _ _ _ h => h) (Or.inl ⟨by rfl, fun w hSw => ?y4⟩) (by assumption) ?r4
  case y4 => go_simp
  simp only [Act.put, Zj, Zi, Zh]; refine wpAnyH_take (i := 5) (v := .int .i64 ((k : Int) + 1)) rfl (by kernel_rfl) (by kernel_rfl) (by kernel_rfl) (fun _ _ _ h => h) (Or.inl ⟨by rfl, fun w hSw => ?y5⟩) (by assumption) ?r5
  case y5 => go_simp
  simp only [Act.put, Zj, Zi, Zh]; refine wpAnyH_take (i := 6) (v := .int .i64 (k : Int)) rfl (by kernel_rfl) (by kernel_rfl) (by kernel_rfl) (fun _ _ _ h => h) (Or.inl ⟨by rfl, fun w hSw => ?y6⟩) (by assumption) ?r6
  case y6 => go_simp
  simp only [Act.put, Zj, Zi, Zh]; refine wpAnyH_take (i := 7) (v := .pointer (some ⟨rb, k * 25, none⟩)) rfl (by kernel_rfl) (by kernel_rfl) (by kernel_rfl) (fun _ _ _ h => h) (Or.inl ⟨by rfl, fun w hSw => ?y7⟩) (by assumption) ?r7
  case y7 => go_simp
  simp only [Act.put, Zj, Zi, Zh]; refine wpAnyH_take (i := 8) (v := _) rfl (by kernel_rfl) (by kernel_rfl) (by kernel_rfl) (fun _ _ _ h => h) (yieldsIf_load_mid (by rfl) 176 _ (by rfl) rb (k * 25) (by rfl) (Yz ob nb sB) _ (fun w h => h.2) hu rfl hi2) (by assumption) ?_; simp only [Act.put, Zj, Zi, Zh]; have sW : (w.alloc (.cells ZM 176)).drew.heap.size = w.heap.size + 1 := by simp
  have gW : (w.alloc (.cells ZM 176)).grownBy (w.alloc (.cells ZM 176)).drew none := Z4 _; have q0 : (w.alloc (.cells ZM 176)).drew.rangeAt rb 0 (Yz oa na sa) := hHeld.1; have q1 : (w.alloc (.cells ZM 176)).drew.rangeAt rb (k * 25) (Yz ob nb sB) := hHeld.2; clear hHeld; change wpAnyH _ _ _ _ _ _ _ _ (w.alloc (.cells ZM 176)).drew; generalize (w.alloc (.cells ZM 176)).drew = W at *; refine wpAnyH_ready (rs := [9, 10]) (by kernel_rfl) (by simp) (AllReadyH.cons (by simp only [List.getElem?_toArray, List.getElem?_cons_succ, List.getElem?_cons_zero]; rfl) (fun K hK => ?_) (AllReadyH.cons (by simp only [List.getElem?_toArray, List.getElem?_cons_succ, List.getElem?_cons_zero]; rfl) (fun K hK => ?_) AllReadyH.nil))
  ·go_simp
   refine hK.out _ _ ⟨World.rangeAt_alloc q0 _, World.rangeAt_alloc q1 _⟩ (fun XJ => ?_); clear hK K; refine wpAnyH_ready (rs := [10]) (by kernel_rfl) (by simp) (AllReadyH.cons (by simp only [List.getElem?_toArray, List.getElem?_cons_succ, List.getElem?_cons_zero]; rfl) (fun K hK => ?_) AllReadyH.nil); go_simp; refine hK.out _ _ ⟨World.rangeAt_alloc (World.rangeAt_alloc q0 _) _, World.rangeAt_alloc (World.rangeAt_alloc q1 _) _⟩ (fun WT => ?_); clear hK K; obtain ⟨t1, t2, t3, t4, t5⟩ := Gu W (w.heap.size + 1) (w.heap.size + 1 + 1) (by omega) (ZB oa na sa (.slice none 0 0)) (ZB ob nb sB (.slice none 0 0)) 176; refine wpAnyH_ready (rs := [11]) (by kernel_rfl) (by simp) (AllReadyH.cons (by simp only [List.getElem?_toArray, List.getElem?_cons_succ, List.getElem?_cons_zero]; rfl) (fun K hK => ?_) AllReadyH.nil); refine SV (by rfl) 176 _ _ (by rfl) (w.heap.size + 1) (ZB oa na sa (.slice none 0 0)) (by rfl) (by rfl) 176 ZM t1 Zl rfl (ZO _ rfl) ?_; simp only [Act.put, Zj, Zi, Zh]; refine hK.out _ _ ⟨Yr (World.rangeAt_alloc (World.rangeAt_alloc q0 _) _) (by omega) _, Yr (World.rangeAt_alloc (World.rangeAt_alloc q1 _) _) (by omega) _⟩ (fun mH => ?_); clear hK K; refine wpAnyH_ready (rs := [12]) (by kernel_rfl) (by simp) (AllReadyH.cons (by simp only [List.getElem?_toArray, List.getElem?_cons_succ, List.getElem?_cons_zero]; rfl) (fun K hK => ?_) AllReadyH.nil); refine SV (by rfl) 176 _ _ (by rfl) (w.heap.size + 1 + 1) (ZB ob nb sB (.slice none 0 0)) (by rfl) (by rfl) 176 ZM t2 Zl rfl (ZO _ rfl) ?_; simp only [Act.put, Zj, Zi, Zh]; refine hK.out _ _ ⟨Yr (Yr (World.rangeAt_alloc (World.rangeAt_alloc q0 _) _) (by omega) _) (by omega) _, Yr (Yr (World.rangeAt_alloc (World.rangeAt_alloc q1 _) _) (by omega) _) (by omega) _⟩ (fun mG => ?_); clear hK K; refine X3 (by kernel_rfl) ?_ _; go_wp2_with fail; go_meet; exact ⟨_, _, rfl, rfl, t3, t4, both gW t5⟩
  ·go_simp
   refine hK.out _ _ ⟨World.rangeAt_alloc q0 _, World.rangeAt_alloc q1 _⟩ (fun XJ => ?_); clear hK K; refine wpAnyH_ready (rs := [9]) (by kernel_rfl) (by simp) (AllReadyH.cons (by simp only [List.getElem?_toArray, List.getElem?_cons_succ, List.getElem?_cons_zero]; rfl) (fun K hK => ?_) AllReadyH.nil); go_simp; refine hK.out _ _ ⟨World.rangeAt_alloc (World.rangeAt_alloc q0 _) _, World.rangeAt_alloc (World.rangeAt_alloc q1 _) _⟩ (fun WT => ?_); clear hK K; obtain ⟨t1, t2, t3, t4, t5⟩ := Gu W (w.heap.size + 1 + 1) (w.heap.size + 1) (by omega) (ZB oa na sa (.slice none 0 0)) (ZB ob nb sB (.slice none 0 0)) 176; refine wpAnyH_ready (rs := [11]) (by kernel_rfl) (by simp) (AllReadyH.cons (by simp only [List.getElem?_toArray, List.getElem?_cons_succ, List.getElem?_cons_zero]; rfl) (fun K hK => ?_) AllReadyH.nil); refine SV (by rfl) 176 _ _ (by rfl) (w.heap.size + 1 + 1) (ZB oa na sa (.slice none 0 0)) (by rfl) (by rfl) 176 ZM t1 Zl rfl (ZO _ rfl) ?_; simp only [Act.put, Zj, Zi, Zh]; refine hK.out _ _ ⟨Yr (World.rangeAt_alloc (World.rangeAt_alloc q0 _) _) (by omega) _, Yr (World.rangeAt_alloc (World.rangeAt_alloc q1 _) _) (by omega) _⟩ (fun mH => ?_); clear hK K; refine wpAnyH_ready (rs := [12]) (by kernel_rfl) (by simp) (AllReadyH.cons (by simp only [List.getElem?_toArray, List.getElem?_cons_succ, List.getElem?_cons_zero]; rfl) (fun K hK => ?_) AllReadyH.nil); refine SV (by rfl) 176 _ _ (by rfl) (w.heap.size + 1) (ZB ob nb sB (.slice none 0 0)) (by rfl) (by rfl) 176 ZM t2 Zl rfl (ZO _ rfl) ?_; simp only [Act.put, Zj, Zi, Zh]; refine hK.out _ _ ⟨Yr (Yr (World.rangeAt_alloc (World.rangeAt_alloc q0 _) _) (by omega) _) (by omega) _, Yr (Yr (World.rangeAt_alloc (World.rangeAt_alloc q1 _) _) (by omega) _) (by omega) _⟩ (fun mG => ?_); clear hK K; refine X3 (by kernel_rfl) ?_ _; go_wp2_with fail; go_meet; exact ⟨_, _, rfl, rfl, t3, t4, both gW t5⟩
 case rest =>
  have hz1 : sa.size + sB.size <= 32768 := by omega
  have hz2 : (sa ++ sB).size <= 32768 := by rw [ByteArray.size_append]; exact hz1
  clear ha hb r0 r1 hi hi2 hu k2 k3 k4 k5 k6 k0 k1 hc; obtain ⟨p7, p8, rfl, rfl, h7, h8, gx⟩ := hcut; have hsb := Z6 hs; have hsx := (gx.block _ (Nat.lt_of_lt_of_le hsb (Z8 w (.cells ZM 176)).size) (by nofun)).trans (((Z8 w (.cells ZM 176)).block _ hsb (by nofun)).trans hs); have HG := Z9 gx; clear gx hs; have c71 := (Zk _ p7 1 _ _ _ h7).trans (show _ = some (Value.int .i64 na) from rfl); have c72 := (Zk _ p7 2 _ _ _ h7).trans (show _ = some (Value.string sa) from rfl); have c81 := (Zk _ p8 1 _ _ _ h8).trans (show _ = some (Value.int .i64 nb) from rfl); have c82 := (Zk _ p8 2 _ _ _ h8).trans (show _ = some (Value.string sB) from rfl); clear h7 h8; rcases hn with rfl | rfl | rfl | rfl | rfl | rfl | rfl | rfl | rfl | rfl | rfl | rfl | rfl
  ·have hr : Yo 1 na nb sa sB sh = WV (na + nb) := Bl na nb sa sB sh
   go_wp2_with (first
    | (go_at_call 118; refine (Wh sb _ _ hsx).mono ?_; rintro e w2 HA; obtain ⟨cs, rfl, hc25, hone, hcell, HE⟩ := Wd HA HG.out hsb)
    | (refine Zc rfl 176 _ _ rfl w.heap.size cs rfl rfl 176 ZM hcell (by rw [hc25]; exact Zl) (by rw [hc25]; rfl) hone ?_))
   exact Y4 (YC rfl _ _ w.heap.size 176 _ (0, 0) _ rfl (Zd _ _ _ _ _ _ hcell) Tryz.underlying176 rfl (by rw [hc25]; exact Zl)) rfl (by rw [hr]; exact HE)
  ·have hr : Yo 2 na nb sa sB sh = WV (na - nb) := Bj na nb sa sB sh
   go_wp2_with (first
    | (go_at_call 118; refine (Wh sb _ _ hsx).mono ?_; rintro e w2 HA; obtain ⟨cs, rfl, hc25, hone, hcell, HE⟩ := Wd HA HG.out hsb)
    | (refine Zc rfl 176 _ _ rfl w.heap.size cs rfl rfl 176 ZM hcell (by rw [hc25]; exact Zl) (by rw [hc25]; rfl) hone ?_))
   exact Y4 (YC rfl _ _ w.heap.size 176 _ (0, 0) _ rfl (Zd _ _ _ _ _ _ hcell) Tryz.underlying176 rfl (by rw [hc25]; exact Zl)) rfl (by rw [hr]; exact HE)
  ·have hr : Yo 3 na nb sa sB sh = WV (Yu na nb) := Bh na nb sa sB sh
   go_wp2_with (first
    | (go_at_call 119; refine (Gw na nb _ hra hrb).mono ?_; rintro e w1 ⟨rfl, rfl⟩)
    | (go_at_call 118; refine (Wh sb _ _ hsx).mono ?_; rintro e w2 HA; obtain ⟨cs, rfl, hc25, hone, hcell, HE⟩ := Wd HA HG.out hsb)
    | (refine Zc rfl 176 _ _ rfl w.heap.size cs rfl rfl 176 ZM hcell (by rw [hc25]; exact Zl) (by rw [hc25]; rfl) hone ?_))
   exact Y4 (YC rfl _ _ w.heap.size 176 _ (0, 0) _ rfl (Zd _ _ _ _ _ _ hcell) Tryz.underlying176 rfl (by rw [hc25]; exact Zl)) rfl (by rw [hr]; exact HE)
  ·have hr : Yo 4 na nb sa sB sh = (if nb = 0 then .fail 3 else WV (wrap64 (Int.tdiv na nb))) := rfl
   by_cases h0 : nb = 0
   ·rw [ZY h0] at hr
    go_wp2_with (first
     | (go_at_call 120; refine (PU sb 2 3 _ hsx).mono ?_; rintro e w2 HA; obtain ⟨cs, rfl, hc25, hone, hcell, HE⟩ := Wd (r := .fail 3) HA HG.out hsb)
     | (refine Zc rfl 176 _ _ rfl w.heap.size cs rfl rfl 176 ZM hcell (by rw [hc25]; exact Zl) (by rw [hc25]; rfl) hone ?_))
    exact Y4 (YC rfl _ _ w.heap.size 176 _ (0, 0) _ rfl (Zd _ _ _ _ _ _ hcell) Tryz.underlying176 rfl (by rw [hc25]; exact Zl)) rfl (by rw [hr]; exact HE)
   ·rw [Z7 h0] at hr
    go_wp2_with (first
     | (go_at_call 118; refine (Wh sb _ _ hsx).mono ?_; rintro e w2 HA; obtain ⟨cs, rfl, hc25, hone, hcell, HE⟩ := Wd HA HG.out hsb)
     | (refine Zc rfl 176 _ _ rfl w.heap.size cs rfl rfl 176 ZM hcell (by rw [hc25]; exact Zl) (by rw [hc25]; rfl) hone ?_))
    exact Y4 (YC rfl _ _ w.heap.size 176 _ (0, 0) _ rfl (Zd _ _ _ _ _ _ hcell) Tryz.underlying176 rfl (by rw [hc25]; exact Zl)) rfl (by rw [hr]; exact HE)
  ·have hr : Yo 5 na nb sa sB sh = (if nb = 0 then .fail 3 else WV (Int.tmod na nb)) := rfl
   by_cases h0 : nb = 0
   ·rw [ZY h0] at hr
    go_wp2_with (first
     | (go_at_call 120; refine (PU sb 2 3 _ hsx).mono ?_; rintro e w2 HA; obtain ⟨cs, rfl, hc25, hone, hcell, HE⟩ := Wd (r := .fail 3) HA HG.out hsb)
     | (refine Zc rfl 176 _ _ rfl w.heap.size cs rfl rfl 176 ZM hcell (by rw [hc25]; exact Zl) (by rw [hc25]; rfl) hone ?_))
    exact Y4 (YC rfl _ _ w.heap.size 176 _ (0, 0) _ rfl (Zd _ _ _ _ _ _ hcell) Tryz.underlying176 rfl (by rw [hc25]; exact Zl)) rfl (by rw [hr]; exact HE)
   ·rw [Z7 h0] at hr
    go_wp2_with (first
     | (go_at_call 118; refine (Wh sb _ _ hsx).mono ?_; rintro e w2 HA; obtain ⟨cs, rfl, hc25, hone, hcell, HE⟩ := Wd HA HG.out hsb)
     | (refine Zc rfl 176 _ _ rfl w.heap.size cs rfl rfl 176 ZM hcell (by rw [hc25]; exact Zl) (by rw [hc25]; rfl) hone ?_))
    exact Y4 (YC rfl _ _ w.heap.size 176 _ (0, 0) _ rfl (Zd _ _ _ _ _ _ hcell) Tryz.underlying176 rfl (by rw [hc25]; exact Zl)) rfl (by rw [hr]; exact HE)
  ·have hr : Yo 6 na nb sa sB sh = WV (-na) := Bg na nb sa sB sh
   go_wp2_with (first
    | (go_at_call 118; refine (Wh sb _ _ hsx).mono ?_; rintro e w2 HA; obtain ⟨cs, rfl, hc25, hone, hcell, HE⟩ := Wd HA HG.out hsb)
    | (refine Zc rfl 176 _ _ rfl w.heap.size cs rfl rfl 176 ZM hcell (by rw [hc25]; exact Zl) (by rw [hc25]; rfl) hone ?_))
   exact Y4 (YC rfl _ _ w.heap.size 176 _ (0, 0) _ rfl (Zd _ _ _ _ _ _ hcell) Tryz.underlying176 rfl (by rw [hc25]; exact Zl)) rfl (by rw [hr]; exact HE)
  ·have hr : Yo 7 na nb sa sB sh = .bool (decide (na < nb)) := rfl
   go_wp2_with (first
    | (go_at_call 121; refine (Sr _ sb _).mono ?_; rintro e w2 HA; obtain ⟨cs, rfl, hc25, hone, hcell, HE⟩ := Wd HA HG.out hsb)
    | (refine Zc rfl 176 _ _ rfl w.heap.size cs rfl rfl 176 ZM hcell (by rw [hc25]; exact Zl) (by rw [hc25]; rfl) hone ?_))
   exact Y4 (YC rfl _ _ w.heap.size 176 _ (0, 0) _ rfl (Zd _ _ _ _ _ _ hcell) Tryz.underlying176 rfl (by rw [hc25]; exact Zl)) rfl (by rw [hr]; exact HE)
  ·have hr : Yo 8 na nb sa sB sh = .bool (decide (na <= nb)) := rfl
   go_wp2_with (first
    | (go_at_call 121; refine (Sr _ sb _).mono ?_; rintro e w2 HA; obtain ⟨cs, rfl, hc25, hone, hcell, HE⟩ := Wd HA HG.out hsb)
    | (refine Zc rfl 176 _ _ rfl w.heap.size cs rfl rfl 176 ZM hcell (by rw [hc25]; exact Zl) (by rw [hc25]; rfl) hone ?_))
   exact Y4 (YC rfl _ _ w.heap.size 176 _ (0, 0) _ rfl (Zd _ _ _ _ _ _ hcell) Tryz.underlying176 rfl (by rw [hc25]; exact Zl)) rfl (by rw [hr]; exact HE)
  ·have hr : Yo 9 na nb sa sB sh = .bool (na == nb) := rfl
   go_wp2_with (first
    | (go_at_call 121; refine (Sr _ sb _).mono ?_; rintro e w2 HA; obtain ⟨cs, rfl, hc25, hone, hcell, HE⟩ := Wd HA HG.out hsb)
    | (refine Zc rfl 176 _ _ rfl w.heap.size cs rfl rfl 176 ZM hcell (by rw [hc25]; exact Zl) (by rw [hc25]; rfl) hone ?_))
   exact Y4 (YC rfl _ _ w.heap.size 176 _ (0, 0) _ rfl (Zd _ _ _ _ _ _ hcell) Tryz.underlying176 rfl (by rw [hc25]; exact Zl)) rfl (by rw [hr]; exact HE)
  ·have hr : Yo 10 na nb sa sB sh = VA (sa ++ sB) := Gt na nb sa sB sh
   go_wp2_with (first
    | (go_at_call 122; refine (LU sb _ _ hsx).mono ?_; rintro e w2 HA; obtain ⟨cs, rfl, hc25, hone, hcell, HE⟩ := Wd HA HG.out hsb)
    | (refine Zc rfl 176 _ _ rfl w.heap.size cs rfl rfl 176 ZM hcell (by rw [hc25]; exact Zl) (by rw [hc25]; rfl) hone ?_))
   exact Y4 (YC rfl _ _ w.heap.size 176 _ (0, 0) _ rfl (Zd _ _ _ _ _ _ hcell) Tryz.underlying176 rfl (by rw [hc25]; exact Zl)) rfl (by rw [hr]; exact HE)
  ·have hr : Yo 11 na nb sa sB sh = WV sa.size := Gs na nb sa sB sh
   go_wp2_with (first
    | (go_at_call 118; refine (Wh sb _ _ hsx).mono ?_; rintro e w2 HA; obtain ⟨cs, rfl, hc25, hone, hcell, HE⟩ := Wd HA HG.out hsb)
    | (refine Zc rfl 176 _ _ rfl w.heap.size cs rfl rfl 176 ZM hcell (by rw [hc25]; exact Zl) (by rw [hc25]; rfl) hone ?_))
   exact Y4 (YC rfl _ _ w.heap.size 176 _ (0, 0) _ rfl (Zd _ _ _ _ _ _ hcell) Tryz.underlying176 rfl (by rw [hc25]; exact Zl)) rfl (by rw [hr]; exact HE)
  ·have hr : Yo 12 na nb sa sB sh = .bool (sa.toList == sB.toList) := rfl
   go_wp2_with (first
    | (go_at_call 121; refine (Sr _ sb _).mono ?_; rintro e w2 HA; obtain ⟨cs, rfl, hc25, hone, hcell, HE⟩ := Wd HA HG.out hsb)
    | (refine Zc rfl 176 _ _ rfl w.heap.size cs rfl rfl 176 ZM hcell (by rw [hc25]; exact Zl) (by rw [hc25]; rfl) hone ?_))
   exact Y4 (YC rfl _ _ w.heap.size 176 _ (0, 0) _ rfl (Zd _ _ _ _ _ _ hcell) Tryz.underlying176 rfl (by rw [hc25]; exact Zl)) rfl (by rw [hr]; exact HE)
  ·have hr : Yo 13 na nb sa sB sh = VA sh := Gq na nb sa sB sh
   go_wp2_with (first
    | (go_at_call 123; refine (mI.out _).mono ?_; rintro e w1 ⟨rfl, hg1⟩; have hsx := (hg1.block _ (Z6 hsx) (by nofun)).trans hsx; have HG := Z9 (both HG.out hg1))
    | (go_at_call 122; refine (LU sb _ _ hsx).mono ?_; rintro e w2 HA; obtain ⟨cs, rfl, hc25, hone, hcell, HE⟩ := Wd HA HG.out hsb)
    | (refine Zc rfl 176 _ _ rfl w.heap.size cs rfl rfl 176 ZM hcell (by rw [hc25]; exact Zl) (by rw [hc25]; rfl) hone ?_))
   exact Y4 (YC rfl _ _ w.heap.size 176 _ (0, 0) _ rfl (Zd _ _ _ _ _ _ hcell) Tryz.underlying176 rfl (by rw [hc25]; exact Zl)) rfl (by rw [hr]; exact HE)
def Ye (n : Int) : Int := if SX n = true then 2 else 1
theorem vX (a b : Int) (h : a ≠ b) : (a != b) = true := by simp [h]
theorem JY (rb cp : Nat) (n oa : Int) (w : World) (h0 : w.cell? ⟨rb, 0, none⟩ = some (.int .i64 oa)) :
 Calls Tryz.prog 90 #[.int .i64 n, .slice (some ⟨rb, 0, none⟩) 1 cp] w fun e w' => e = .returned (.bool (decide (oa = Ye n) && (1 == WC n))) /\ w = w' := by
 have HT := fun wx => M9 n wx
 have HA := fun wx => M8 n wx
 have hw : SX n = true /\ Ye n = 2 \/ SX n = false /\ Ye n = 1 := by
  unfold Ye; cases SX n <;> simp
 generalize SX n = t at *
 generalize Ye n = wt at *
 generalize WC n = ar at *
 rcases hw with ⟨rfl, rfl⟩ | ⟨rfl, rfl⟩
 all_goals
  go_in; go_wp2_with (go_at_call 106; refine (HT _).mono ?_; rintro e w' ⟨rfl, rfl⟩); refine XL 2 ?_; rw [Y3]; go_wp2_with fail
  ·go_ret
   refine ⟨XT ?_, rfl⟩; simp_all
  ·rw [Y3]
   go_wp2_with (go_at_call 107; refine (HA _).mono ?_; rintro e w' ⟨rfl, rfl⟩); go_ret; refine ⟨XT ?_, rfl⟩; simp_all
theorem JX (rb cp : Nat) (n oa ob : Int) (w : World) (h0 : w.cell? ⟨rb, 0, none⟩ = some (.int .i64 oa)) (h1 : w.cell? ⟨rb, 25, none⟩ = some (.int .i64 ob)) :
 Calls Tryz.prog 90 #[.int .i64 n, .slice (some ⟨rb, 0, none⟩) 2 cp] w fun e w' => e = .returned (.bool (decide (oa = Ye n) && decide (ob = Ye n) && (2 == WC n))) /\ w = w' := by
 have HT := fun wx => M9 n wx
 have HA := fun wx => M8 n wx
 have hw : SX n = true /\ Ye n = 2 \/ SX n = false /\ Ye n = 1 := by
  unfold Ye; cases SX n <;> simp
 generalize SX n = t at *
 generalize Ye n = wt at *
 generalize WC n = ar at *
 rcases hw with ⟨rfl, rfl⟩ | ⟨rfl, rfl⟩
 all_goals
  go_in; go_wp2_with (go_at_call 106; refine (HT _).mono ?_; rintro e w' ⟨rfl, rfl⟩); refine XL 3 ?_; rw [Y3]; go_wp2_with fail
  ·go_ret
   refine ⟨XT ?_, rfl⟩; simp_all
  ·rw [Y3]
   go_wp2_with fail
   ·go_ret
    refine ⟨XT ?_, rfl⟩; simp_all
   ·rw [Y3]
    go_wp2_with (go_at_call 107; refine (HA _).mono ?_; rintro e w' ⟨rfl, rfl⟩); go_ret; refine ⟨XT ?_, rfl⟩; simp_all
theorem X4 {fn : Func} {p u : Tmp} {ty : TypeId} {P : Program} (h : fn.results = #[.cell p ty, .tmp u]) (tmps : Array Value) (w : World) (g : Nat) (t : TypeId) (cs : Array Value) (fr : Nat × Nat) (fs : Array Field)
 (hp : tmps.getD p undef = .pointer (some ⟨g, 0, none⟩)) (hg : w.heap[g]? = some (.cells cs t fr))
 (hu : P.underlying ty = some (.struct fs)) (hi : (P.info? ty).map (·.size) = some cs.size) :
 (results fn tmps).run P w = .ok (.tuple #[.agg cs, tmps.getD u undef]) w := by
 have hp' : tmps[p]?.getD undef = .pointer (some ⟨g, 0, none⟩) := by simpa using hp
 rw [results_cell_tmp h]
 simp [hp', asAddr, run_loadVar_row w g t ty cs fr (.struct fs) hg hu rfl hi, Result.andThen]
theorem Zp {P : Program} {ops : Array Oper} {Q : Exit -> Act -> World -> Prop} {md : Region.Mode} {S : World -> Prop} {fuel : Nat} {listed : Array Bool} {a : Act} {w : World} (i d : Nat) (v : Value) {oi : Oper} (hi : ops[i]? = some oi) (hd : oi.dst = some d)
 (hs : Region.noSelect ops = true) (hf : Region.free md ops listed i = true) (hr : (Region.ready md ops listed).contains i = true)
 (hQ : ∀ c a w, Q (.panic c) (a.put oi.dst v) w -> Q (.panic c) a w) (hy : YieldsIf P ops S oi v a) (hS : S w)
 (h : wpAnyH P md ops Q S fuel (listed.setIfInBounds i true) (a.put (some d) v) w) : wpAnyH P md ops Q S (fuel + 1) listed a w :=
 wpAnyH_take hi hs hf hr hQ hy hS (by rw [hd]; exact h)
theorem Ro {P : Program} {ops : Array Oper} {Q : Exit -> Act -> World -> Prop} {md : Region.Mode} {S : World -> Prop} {fuel : Nat} {listed : Array Bool} {a : Act} {w : World} (i : Nat) {o : Oper}
 (hr : Region.ready md ops listed = [i]) (ho : ops[i]? = some o) (hg : o.guard = none) (hdn : o.dst = none) (ty : TypeId) (x y : Operand) (hop : o.op = .store ty x y) (g : Nat) (cells : Array Value) (hx : a.eval x = .pointer (some ⟨g, 0, none⟩)) (hy : a.eval y = .agg cells)
 (t : TypeId) (old : Array Value) (h0 : w.heap[g]? = some (.cells old t (0, 0))) (hi : (P.info? ty).map (·.size) = some cells.size) (hold : old.size = cells.size) (h1 : cells.all (·.oneCell') = true) (hS : S (w.setRow g cells))
 (h : wpAnyH P md ops Q S fuel (listed.setIfInBounds i true) a (w.setRow g cells)) : wpAnyH P md ops Q S (fuel + 1) listed a w :=
 wpAnyH_ready hr (by simp) (AllReadyH.cons ho (fun K hK => SV hg ty x y hop g cells hx hy t old h0 hi hold h1 (hK.out _ _ hS (fun _ => by rw [hdn]; exact h))) AllReadyH.nil)
theorem LP (n : Int) (s : ByteArray) (w : World) :
 Calls Tryz.prog 109 #[.agg #[.int .i64 1, .int .i64 n, .string s, .slice none 0 0, .slice none 0 0]] w fun e w' => e = .returned (.tuple #[.agg (ZB 1 n s (.slice none 0 0)), .bool true]) /\ w.grownBy w' none := by
 have g0 := Z8 w (.cells #[.int .i64 1, .int .i64 n, .string s, .slice none 0 0, .slice none 0 0] 43)
 have n0 := Zn w (.cells #[.int .i64 1, .int .i64 n, .string s, .slice none 0 0, .slice none 0 0] 43)
 have e0 : (w.alloc (.cells #[.int .i64 1, .int .i64 n, .string s, .slice none 0 0, .slice none 0 0] 43)).heap.size = w.heap.size + 1 := by simp
 go_in
 go_upto_region 1 with fail
 change Code.wp _ _ _ _ ((w.alloc (.cells #[.int .i64 1, .int .i64 n, .string s, .slice none 0 0, .slice none 0 0] 43)).alloc (.cells ZM 176))
 generalize w.alloc (.cells #[.int .i64 1, .int .i64 n, .string s, .slice none 0 0, .slice none 0 0] 43) = W at *
 have g1 := Z8 W (.cells ZM 176)
 have n1 := ZF e0 (.cells ZM 176)
 have e1 : (W.alloc (.cells ZM 176)).heap.size = w.heap.size + 1 + 1 := by simp [e0]
 generalize W.alloc (.cells ZM 176) = A at *
 have n2 := (g1.block _ (Z6 n0) (by nofun)).trans n0
 have gg := both (both g0 g1) (Z4 _)
 have n3 : A.drew.heap[w.heap.size + 1]? = some (.cells ZM 176 (0, 0)) := n1
 have n4 : A.drew.heap[w.heap.size]? = _ := n2
 refine XG (S := fun w' => w'.cell? ⟨w.heap.size, 0, none⟩ = some (.int .i64 1) /\ w'.cell? ⟨w.heap.size, 1, none⟩ = some (.int .i64 n) /\ w'.cell? ⟨w.heap.size, 2, none⟩ = some (.string s)) (by kernel_rfl) ⟨Zk _ _ 0 _ _ _ n4, Zk _ _ 1 _ _ _ n4, Zk _ _ 2 _ _ _ n4⟩ (fun hHeld => ?_)
 refine Zp 0 4 (.pointer (some ⟨w.heap.size, 0, none⟩)) rfl rfl (by kernel_rfl) (by kernel_rfl) (by kernel_rfl) (fun _ _ _ h => h) (Or.inl ⟨by rfl, fun w9 hSw => ?y0⟩) (by assumption) ?r0
 case y0 =>
  obtain ⟨c0, c1, c2⟩ := hSw; clear hHeld; go_simp
 simp only [Act.put, Zj, Zi, Zh]
 refine Zp 1 5 (.int .i64 1) rfl rfl (by kernel_rfl) (by kernel_rfl) (by kernel_rfl) (fun _ _ _ h => h) (Or.inl ⟨by rfl, fun w9 hSw => ?y1⟩) (by assumption) ?r1
 case y1 =>
  obtain ⟨c0, c1, c2⟩ := hSw; clear hHeld; go_simp
 simp only [Act.put, Zj, Zi, Zh]
 refine Zp 2 6 (.pointer (some ⟨w.heap.size, 1, none⟩)) rfl rfl (by kernel_rfl) (by kernel_rfl) (by kernel_rfl) (fun _ _ _ h => h) (Or.inl ⟨by rfl, fun w9 hSw => ?y2⟩) (by assumption) ?r2
 case y2 =>
  obtain ⟨c0, c1, c2⟩ := hSw; clear hHeld; go_simp
 simp only [Act.put, Zj, Zi, Zh]
 refine Zp 3 7 (.int .i64 n) rfl rfl (by kernel_rfl) (by kernel_rfl) (by kernel_rfl) (fun _ _ _ h => h) (Or.inl ⟨by rfl, fun w9 hSw => ?y3⟩) (by assumption) ?r3
 case y3 =>
  obtain ⟨c0, c1, c2⟩ := hSw; clear hHeld; go_simp
 simp only [Act.put, Zj, Zi, Zh]
 refine Zp 4 8 (.pointer (some ⟨w.heap.size, 2, none⟩)) rfl rfl (by kernel_rfl) (by kernel_rfl) (by kernel_rfl) (fun _ _ _ h => h) (Or.inl ⟨by rfl, fun w9 hSw => ?y4⟩) (by assumption) ?r4
 case y4 =>
  obtain ⟨c0, c1, c2⟩ := hSw; clear hHeld; go_simp
 simp only [Act.put, Zj, Zi, Zh]
 refine Zp 5 9 (.string s) rfl rfl (by kernel_rfl) (by kernel_rfl) (by kernel_rfl) (fun _ _ _ h => h) (Or.inl ⟨by rfl, fun w9 hSw => ?y5⟩) (by assumption) ?r5
 case y5 =>
  obtain ⟨c0, c1, c2⟩ := hSw; clear hHeld; go_simp
 simp only [Act.put, Zj, Zi, Zh]
 refine Zp 6 10 (.agg (ZB 1 n s (.slice none 0 0))) rfl rfl (by kernel_rfl) (by kernel_rfl) (by kernel_rfl) (fun _ _ _ h => h) (Or.inl ⟨by rfl, fun w9 hSw => ?y6⟩) (by assumption) ?r6
 case y6 =>
  obtain ⟨c0, c1, c2⟩ := hSw; clear hHeld; go_simp; rfl
 simp only [Act.put, Zj, Zi, Zh]
 refine Zp 7 11 (.pointer (some ⟨w.heap.size, 0, none⟩)) rfl rfl (by kernel_rfl) (by kernel_rfl) (by kernel_rfl) (fun _ _ _ h => h) (Or.inl ⟨by rfl, fun w9 hSw => ?y7⟩) (by assumption) ?r7
 case y7 =>
  obtain ⟨c0, c1, c2⟩ := hSw; clear hHeld; go_simp
 simp only [Act.put, Zj, Zi, Zh]
 refine Zp 8 12 (.int .i64 1) rfl rfl (by kernel_rfl) (by kernel_rfl) (by kernel_rfl) (fun _ _ _ h => h) (Or.inl ⟨by rfl, fun w9 hSw => ?y8⟩) (by assumption) ?r8
 case y8 =>
  obtain ⟨c0, c1, c2⟩ := hSw; clear hHeld; go_simp
 simp only [Act.put, Zj, Zi, Zh]
 refine Zp 9 13 (.bool true) rfl rfl (by kernel_rfl) (by kernel_rfl) (by kernel_rfl) (fun _ _ _ h => h) (Or.inl ⟨by rfl, fun w9 hSw => ?y9⟩) (by assumption) ?r9
 case y9 =>
  obtain ⟨c0, c1, c2⟩ := hSw; clear hHeld; go_simp
 simp only [Act.put, Zj, Zi, Zh]
 refine Zp 10 14 (.bool true) rfl rfl (by kernel_rfl) (by kernel_rfl) (by kernel_rfl) (fun _ _ _ h => h) (Or.inl ⟨by rfl, fun w9 hSw => ?y10⟩) (by assumption) ?r10
 case y10 =>
  obtain ⟨c0, c1, c2⟩ := hSw; clear hHeld; go_simp
 simp only [Act.put, Zj, Zi, Zh]
 refine Zp 11 15 undef rfl rfl (by kernel_rfl) (by kernel_rfl) (by kernel_rfl) (fun _ _ _ h => h) (Or.inr ⟨by kernel_rfl, rfl⟩) (by assumption) ?_
 simp only [Act.put, Zj, Zi, Zh]
 refine Zp 12 16 undef rfl rfl (by kernel_rfl) (by kernel_rfl) (by kernel_rfl) (fun _ _ _ h => h) (Or.inr ⟨by kernel_rfl, rfl⟩) (by assumption) ?_
 simp only [Act.put, Zj, Zi, Zh]
 refine Zp 13 17 undef rfl rfl (by kernel_rfl) (by kernel_rfl) (by kernel_rfl) (fun _ _ _ h => h) (Or.inr ⟨by kernel_rfl, rfl⟩) (by assumption) ?_
 simp only [Act.put, Zj, Zi, Zh]
 refine Zp 14 18 (.bool true) rfl rfl (by kernel_rfl) (by kernel_rfl) (by kernel_rfl) (fun _ _ _ h => h) (Or.inl ⟨by rfl, fun w9 hSw => ?y14⟩) (by assumption) ?r14
 case y14 =>
  obtain ⟨c0, c1, c2⟩ := hSw; clear hHeld; go_simp
 simp only [Act.put, Zj, Zi, Zh]
 refine Ro 15 (by kernel_rfl) (by rfl) (by rfl) (by rfl) 176 _ _ (by rfl) (w.heap.size + 1) (ZB 1 n s (.slice none 0 0)) (by rfl) (by rfl) 176 ZM n3 Zl rfl (ZO _ rfl) ?hs ?_
 case hs =>
  have q := (WM A.drew (w.heap.size + 1) w.heap.size (ZB 1 n s (.slice none 0 0)) (by omega)).trans n4; exact ⟨Zk _ _ 0 _ _ _ q, Zk _ _ 1 _ _ _ q, Zk _ _ 2 _ _ _ q⟩
 refine Zp 16 3 (.bool true) rfl rfl (by kernel_rfl) (by kernel_rfl) (by kernel_rfl) (fun _ _ _ h => h) (Or.inl ⟨by rfl, fun w9 hSw => ?y16⟩) ?hs ?_
 case y16 => go_simp
 case hs =>
  have q := (WM A.drew (w.heap.size + 1) w.heap.size (ZB 1 n s (.slice none 0 0)) (by omega)).trans n4; exact ⟨Zk _ _ 0 _ _ _ q, Zk _ _ 1 _ _ _ q, Zk _ _ 2 _ _ _ q⟩
 simp only [Act.put, Zj, Zi, Zh]
 refine X3 (by kernel_rfl) ?_ _
 go_wp2_with fail
 have q2 := Zd _ _ _ (ZB 1 n s (.slice none 0 0)) _ _ n3
 refine Y4 (X4 rfl _ _ (w.heap.size + 1) 176 _ (0, 0) _ rfl q2 Tryz.underlying176 Zl) rfl ⟨rfl, ?_⟩
 exact ZQ gg (by omega) _
theorem LK (n : Int) (s : ByteArray) (w : World) :
 Calls Tryz.prog 109 #[.agg #[.int .i64 2, .int .i64 n, .string s, .slice none 0 0, .slice none 0 0]] w fun e w' => e = .returned (.tuple #[.agg (ZB 2 n s (.slice none 0 0)), .bool true]) /\ w.grownBy w' none := by
 have g0 := Z8 w (.cells #[.int .i64 2, .int .i64 n, .string s, .slice none 0 0, .slice none 0 0] 43)
 have n0 := Zn w (.cells #[.int .i64 2, .int .i64 n, .string s, .slice none 0 0, .slice none 0 0] 43)
 have e0 : (w.alloc (.cells #[.int .i64 2, .int .i64 n, .string s, .slice none 0 0, .slice none 0 0] 43)).heap.size = w.heap.size + 1 := by simp
 go_in
 go_upto_region 1 with fail
 change Code.wp _ _ _ _ ((w.alloc (.cells #[.int .i64 2, .int .i64 n, .string s, .slice none 0 0, .slice none 0 0] 43)).alloc (.cells ZM 176))
 generalize w.alloc (.cells #[.int .i64 2, .int .i64 n, .string s, .slice none 0 0, .slice none 0 0] 43) = W at *
 have g1 := Z8 W (.cells ZM 176)
 have n1 := ZF e0 (.cells ZM 176)
 have e1 : (W.alloc (.cells ZM 176)).heap.size = w.heap.size + 1 + 1 := by simp [e0]
 generalize W.alloc (.cells ZM 176) = A at *
 have n2 := (g1.block _ (Z6 n0) (by nofun)).trans n0
 have gg := both (both g0 g1) (Z4 _)
 have n3 : A.drew.heap[w.heap.size + 1]? = some (.cells ZM 176 (0, 0)) := n1
 have n4 : A.drew.heap[w.heap.size]? = _ := n2
 refine XG (S := fun w' => w'.cell? ⟨w.heap.size, 0, none⟩ = some (.int .i64 2) /\ w'.cell? ⟨w.heap.size, 1, none⟩ = some (.int .i64 n) /\ w'.cell? ⟨w.heap.size, 2, none⟩ = some (.string s)) (by kernel_rfl) ⟨Zk _ _ 0 _ _ _ n4, Zk _ _ 1 _ _ _ n4, Zk _ _ 2 _ _ _ n4⟩ (fun hHeld => ?_)
 refine Zp 0 4 (.pointer (some ⟨w.heap.size, 0, none⟩)) rfl rfl (by kernel_rfl) (by kernel_rfl) (by kernel_rfl) (fun _ _ _ h => h) (Or.inl ⟨by rfl, fun w9 hSw => ?y0⟩) (by assumption) ?r0
 case y0 =>
  obtain ⟨c0, c1, c2⟩ := hSw; clear hHeld; go_simp
 simp only [Act.put, Zj, Zi, Zh]
 refine Zp 1 5 (.int .i64 2) rfl rfl (by kernel_rfl) (by kernel_rfl) (by kernel_rfl) (fun _ _ _ h => h) (Or.inl ⟨by rfl, fun w9 hSw => ?y1⟩) (by assumption) ?r1
 case y1 =>
  obtain ⟨c0, c1, c2⟩ := hSw; clear hHeld; go_simp
 simp only [Act.put, Zj, Zi, Zh]
 refine Zp 2 6 (.pointer (some ⟨w.heap.size, 1, none⟩)) rfl rfl (by kernel_rfl) (by kernel_rfl) (by kernel_rfl) (fun _ _ _ h => h) (Or.inl ⟨by rfl, fun w9 hSw => ?y2⟩) (by assumption) ?r2
 case y2 =>
  obtain ⟨c0, c1, c2⟩ := hSw; clear hHeld; go_simp
 simp only [Act.put, Zj, Zi, Zh]
 refine Zp 3 7 (.int .i64 n) rfl rfl (by kernel_rfl) (by kernel_rfl) (by kernel_rfl) (fun _ _ _ h => h) (Or.inl ⟨by rfl, fun w9 hSw => ?y3⟩) (by assumption) ?r3
 case y3 =>
  obtain ⟨c0, c1, c2⟩ := hSw; clear hHeld; go_simp
 simp only [Act.put, Zj, Zi, Zh]
 refine Zp 4 8 (.pointer (some ⟨w.heap.size, 2, none⟩)) rfl rfl (by kernel_rfl) (by kernel_rfl) (by kernel_rfl) (fun _ _ _ h => h) (Or.inl ⟨by rfl, fun w9 hSw => ?y4⟩) (by assumption) ?r4
 case y4 =>
  obtain ⟨c0, c1, c2⟩ := hSw; clear hHeld; go_simp
 simp only [Act.put, Zj, Zi, Zh]
 refine Zp 5 9 (.string s) rfl rfl (by kernel_rfl) (by kernel_rfl) (by kernel_rfl) (fun _ _ _ h => h) (Or.inl ⟨by rfl, fun w9 hSw => ?y5⟩) (by assumption) ?r5
 case y5 =>
  obtain ⟨c0, c1, c2⟩ := hSw; clear hHeld; go_simp
 simp only [Act.put, Zj, Zi, Zh]
 refine Zp 6 10 (.agg (ZB 2 n s (.slice none 0 0))) rfl rfl (by kernel_rfl) (by kernel_rfl) (by kernel_rfl) (fun _ _ _ h => h) (Or.inl ⟨by rfl, fun w9 hSw => ?y6⟩) (by assumption) ?r6
 case y6 =>
  obtain ⟨c0, c1, c2⟩ := hSw; clear hHeld; go_simp; rfl
 simp only [Act.put, Zj, Zi, Zh]
 refine Zp 7 11 (.pointer (some ⟨w.heap.size, 0, none⟩)) rfl rfl (by kernel_rfl) (by kernel_rfl) (by kernel_rfl) (fun _ _ _ h => h) (Or.inl ⟨by rfl, fun w9 hSw => ?y7⟩) (by assumption) ?r7
 case y7 =>
  obtain ⟨c0, c1, c2⟩ := hSw; clear hHeld; go_simp
 simp only [Act.put, Zj, Zi, Zh]
 refine Zp 8 12 (.int .i64 2) rfl rfl (by kernel_rfl) (by kernel_rfl) (by kernel_rfl) (fun _ _ _ h => h) (Or.inl ⟨by rfl, fun w9 hSw => ?y8⟩) (by assumption) ?r8
 case y8 =>
  obtain ⟨c0, c1, c2⟩ := hSw; clear hHeld; go_simp
 simp only [Act.put, Zj, Zi, Zh]
 refine Zp 9 13 (.bool false) rfl rfl (by kernel_rfl) (by kernel_rfl) (by kernel_rfl) (fun _ _ _ h => h) (Or.inl ⟨by rfl, fun w9 hSw => ?y9⟩) (by assumption) ?r9
 case y9 =>
  obtain ⟨c0, c1, c2⟩ := hSw; clear hHeld; go_simp
 simp only [Act.put, Zj, Zi, Zh]
 refine Zp 10 14 (.bool false) rfl rfl (by kernel_rfl) (by kernel_rfl) (by kernel_rfl) (fun _ _ _ h => h) (Or.inl ⟨by rfl, fun w9 hSw => ?y10⟩) (by assumption) ?r10
 case y10 =>
  obtain ⟨c0, c1, c2⟩ := hSw; clear hHeld; go_simp
 simp only [Act.put, Zj, Zi, Zh]
 refine Zp 11 15 (.pointer (some ⟨w.heap.size, 0, none⟩)) rfl rfl (by kernel_rfl) (by kernel_rfl) (by kernel_rfl) (fun _ _ _ h => h) (Or.inl ⟨by rfl, fun w9 hSw => ?y11⟩) (by assumption) ?r11
 case y11 =>
  obtain ⟨c0, c1, c2⟩ := hSw; clear hHeld; go_simp
 simp only [Act.put, Zj, Zi, Zh]
 refine Zp 12 16 (.int .i64 2) rfl rfl (by kernel_rfl) (by kernel_rfl) (by kernel_rfl) (fun _ _ _ h => h) (Or.inl ⟨by rfl, fun w9 hSw => ?y12⟩) (by assumption) ?r12
 case y12 =>
  obtain ⟨c0, c1, c2⟩ := hSw; clear hHeld; go_simp
 simp only [Act.put, Zj, Zi, Zh]
 refine Zp 13 17 (.bool true) rfl rfl (by kernel_rfl) (by kernel_rfl) (by kernel_rfl) (fun _ _ _ h => h) (Or.inl ⟨by rfl, fun w9 hSw => ?y13⟩) (by assumption) ?r13
 case y13 =>
  obtain ⟨c0, c1, c2⟩ := hSw; clear hHeld; go_simp
 simp only [Act.put, Zj, Zi, Zh]
 refine Zp 14 18 (.bool true) rfl rfl (by kernel_rfl) (by kernel_rfl) (by kernel_rfl) (fun _ _ _ h => h) (Or.inl ⟨by rfl, fun w9 hSw => ?y14⟩) (by assumption) ?r14
 case y14 =>
  obtain ⟨c0, c1, c2⟩ := hSw; clear hHeld; go_simp
 simp only [Act.put, Zj, Zi, Zh]
 refine Ro 15 (by kernel_rfl) (by rfl) (by rfl) (by rfl) 176 _ _ (by rfl) (w.heap.size + 1) (ZB 2 n s (.slice none 0 0)) (by rfl) (by rfl) 176 ZM n3 Zl rfl (ZO _ rfl) ?hs ?_
 case hs =>
  have q := (WM A.drew (w.heap.size + 1) w.heap.size (ZB 2 n s (.slice none 0 0)) (by omega)).trans n4; exact ⟨Zk _ _ 0 _ _ _ q, Zk _ _ 1 _ _ _ q, Zk _ _ 2 _ _ _ q⟩
 refine Zp 16 3 (.bool true) rfl rfl (by kernel_rfl) (by kernel_rfl) (by kernel_rfl) (fun _ _ _ h => h) (Or.inl ⟨by rfl, fun w9 hSw => ?y16⟩) ?hs ?_
 case y16 => go_simp
 case hs =>
  have q := (WM A.drew (w.heap.size + 1) w.heap.size (ZB 2 n s (.slice none 0 0)) (by omega)).trans n4; exact ⟨Zk _ _ 0 _ _ _ q, Zk _ _ 1 _ _ _ q, Zk _ _ 2 _ _ _ q⟩
 simp only [Act.put, Zj, Zi, Zh]
 refine X3 (by kernel_rfl) ?_ _
 go_wp2_with fail
 have q2 := Zd _ _ _ (ZB 2 n s (.slice none 0 0)) _ _ n3
 refine Y4 (X4 rfl _ _ (w.heap.size + 1) 176 _ (0, 0) _ rfl q2 Tryz.underlying176 Zl) rfl ⟨rfl, ?_⟩
 exact ZQ gg (by omega) _
theorem Yh {w : World} {q : Nat} {x y z u v : Value} {t : TypeId} (h : w.heap[q]? = some (.cells #[x, y, z, u, v] t (0, 0))) : w.cell? ⟨q, 0, none⟩ = some x /\ w.cell? ⟨q, 1, none⟩ = some y /\ w.cell? ⟨q, 2, none⟩ = some z /\ w.cell? ⟨q, 3, none⟩ = some u /\ w.cell? ⟨q, 4, none⟩ = some v := by
 simp [World.cell?, h]
theorem I9 (op n : Int) (s : ByteArray) (w : World) :
 Calls Tryz.prog 116 #[.agg #[.int .i64 op, .int .i64 n, .string s, .slice none 0 0, .slice none 0 0], .int .i64 20000, .int .i64 400] w fun e w' => e = .returned (.int .i64 19999) /\ w.grownBy w' none := by
 have g0 := Z8 w (.cells #[.int .i64 op, .int .i64 n, .string s, .slice none 0 0, .slice none 0 0] 43)
 go_in
 go_wp2_with fail
 refine XL 1 ?_
 rw [Y3]
 go_wp2
 go_ret
 exact ⟨rfl, g0⟩
def OU (n : Int) (s : ByteArray) : Bool := decide (-4503599627370496 <= n) && decide (n <= 4503599627370496) && s.toList.isEmpty
def OT (n : Int) (s : ByteArray) : Bool := decide (n = 0) && decide ((s.size : Int) <= 16384)
theorem DK (n : Int) (s : ByteArray) (w : World) :
 Calls Tryz.prog 126 #[.agg #[.int .i64 1, .int .i64 n, .string s, .slice none 0 0, .slice none 0 0]] w fun e w' => e = .returned (.bool (OU n s)) /\ w.grownBy w' none := by
 have g0 := Z8 w (.cells #[.int .i64 1, .int .i64 n, .string s, .slice none 0 0, .slice none 0 0] 43)
 go_in
 go_wp2_with fail
 go_quiet (fail)
 go_wp2_with fail
 all_goals
  go_ret; refine ⟨XT ?_, both (Z8 _ _) ⟨rfl, rfl, rfl, Nat.le_refl _, fun _ _ _ => rfl⟩⟩; unfold OU
  first
   | (simp [*]; done)
   | (simp [*]; omega)
theorem DJ (n : Int) (s : ByteArray) (w : World) :
 Calls Tryz.prog 126 #[.agg #[.int .i64 2, .int .i64 n, .string s, .slice none 0 0, .slice none 0 0]] w fun e w' => e = .returned (.bool (OT n s)) /\ w.grownBy w' none := by
 have g0 := Z8 w (.cells #[.int .i64 2, .int .i64 n, .string s, .slice none 0 0, .slice none 0 0] 43)
 go_in
 go_wp2_with fail
 go_quiet (fail)
 go_wp2_with fail
 all_goals
  go_ret; refine ⟨XT ?_, both (Z8 _ _) ⟨rfl, rfl, rfl, Nat.le_refl _, fun _ _ _ => rfl⟩⟩; unfold OT
  first
   | (simp_all; done)
   | (simp_all; omega)
def XQ (op n : Int) (s : ByteArray) : Bool := if op = 1 then OU n s else OT n s
theorem Gp (op n : Int) (s : ByteArray) (w : World) (h : op = 1 \/ op = 2) :
 Calls Tryz.prog 126 #[.agg #[.int .i64 op, .int .i64 n, .string s, .slice none 0 0, .slice none 0 0]] w fun e w' => e = .returned (.bool (XQ op n s)) /\ w.grownBy w' none := by
 rcases h with rfl | rfl
 ·exact DK n s w
 ·exact DJ n s w
theorem I8 (op n : Int) (s : ByteArray) (w : World) (h : op = 1 \/ op = 2) :
 Calls Tryz.prog 117 #[.agg #[.int .i64 op, .int .i64 n, .string s, .slice none 0 0, .slice none 0 0]] w fun e w' => e = .returned (.bool (XQ op n s)) /\ w.grownBy w' none := by
 have g0 := Z8 w (.cells #[.int .i64 op, .int .i64 n, .string s, .slice none 0 0, .slice none 0 0] 43)
 have n0 := Zn w (.cells #[.int .i64 op, .int .i64 n, .string s, .slice none 0 0, .slice none 0 0] 43)
 have HN := fun wx => Gp op n s wx h
 generalize XQ op n s = r at *
 cases r
 all_goals
  go_in; go_wp2_with (go_at_call 126; refine (HN _).mono ?_; rintro e w2 ⟨rfl, g2⟩; have c4 := Zk _ _ 4 _ _ _ ((g2.block _ (Z6 n0) (by nofun)).trans n0); simp at c4)
 ·go_ret
  exact ⟨rfl, both g0 g2⟩
 ·refine XL 1 ?_
  rw [Y3]; go_wp2; go_ret; exact ⟨rfl, both g0 g2⟩
theorem Vq (op n : Int) (s : ByteArray) (w : World) (h : op = 1 \/ op = 2) :
 Calls Tryz.prog 108 #[.agg #[.int .i64 op, .int .i64 n, .string s, .slice none 0 0, .slice none 0 0]] w fun e w' => e = .returned (.bool (XQ op n s)) /\ w.grownBy w' none := by
 have g0 := Z8 w (.cells #[.int .i64 op, .int .i64 n, .string s, .slice none 0 0, .slice none 0 0] 43)
 have n0 := Zn w (.cells #[.int .i64 op, .int .i64 n, .string s, .slice none 0 0, .slice none 0 0] 43)
 have HN := fun wx => I8 op n s wx h
 have HC := fun wx => I9 op n s wx
 generalize XQ op n s = r at *
 go_in
 go_wp2_with (first
  | (go_at_call 116; refine (HC _).mono ?_; rintro e w2 ⟨rfl, g2⟩; obtain ⟨c0, c1, c2, c3, c4⟩ := Yh ((g2.block _ (Z6 n0) (by nofun)).trans n0))
  | (go_at_call 117; refine (HN _).mono ?_; rintro e w3 ⟨rfl, g3⟩))
 go_ret
 exact ⟨rfl, both (both g0 g2) g3⟩
end Go.Proofs.YtbcfdebdikgijaaGreatDoor
