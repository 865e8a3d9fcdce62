/- prim of the reference of layer 15: some operations. -/
import Derived.Test.YtidolpcbbbakmaaGreatM8
namespace Go.Proofs.YtidolpcbbbakmaaGreat
open Go Go.RowKit
set_option maxRecDepth 100000 in
set_option maxHeartbeats 4000000 in
theorem prim15_any (sb rb cp k : Nat) (n : Int) (oa na ob nb : Int) (sa sB sh : ByteArray) (w : World) (hs : w.heap[sb]? = some (.cells (st15 0 0) 163 (0, 0)))
    (ha : w.rangeAt rb 0 (flat15 oa na sa)) (hb : w.rangeAt rb (k * 25) (flat15 ob nb sB)) (hlt : rb < w.heap.size) (hc : k + 1 ≤ cp) (hk : k = 0 ∨ k = 1)
    (hn : n = 1 ∨ n = 2 ∨ n = 3 ∨ n = 4 ∨ n = 5 ∨ n = 6 ∨ n = 7 ∨ n = 8 ∨ n = 9 ∨ n = 10 ∨ n = 11 ∨ n = 12 ∨ n = 13) (hra : -4503599627370496 ≤ na ∧ na ≤ 4503599627370496) (hrb : -4503599627370496 ≤ nb ∧ nb ≤ 4503599627370496)
    (hsz : sa.size ≤ 16384 ∧ sB.size ≤ 16384) (HSh : Hid (∀ wx, Calls Tryz.prog 105 #[.int .i64 na] wx fun e w' => e = .returned (.string sh) ∧ wx.grownBy w' none)) :
    Calls Tryz.prog 93 #[.pointer (some ⟨sb, 0, none⟩), .int .i64 n, .slice (some ⟨rb, 0, none⟩) (k + 1) cp] w (Ans15 sb (primR n na nb sa sB sh) w) := by
  have hu := Tryz.underlying149
  have hi : (Tryz.prog.info? 149).map (·.size) = some (flat15 oa na sa).length := info15
  have hi2 : (Tryz.prog.info? 149).map (·.size) = some (flat15 ob nb sB).length := info15
  have k0 : (0 : Int) ≤ (k : Int) := by omega
  have k1 : (k : Int) ≤ 1 := by omega
  have k2 : ((k + 1 : Nat) : Int) = (k : Int) + 1 := by omega
  have k3 : (k : Int) < (k : Int) + 1 := by omega
  have k4 : (0 : Int) < (k : Int) + 1 := by omega
  have k6 : IntKind.i64.wrap (k : Int) = (k : Int) := by rw [IntKind.wrap_i64]; omega
  have k5 : (k : Int) + 1 - 1 = (k : Int) := by omega
  go_enter Tryz.func93, Tryz.ntmps93
  have r0 : (w.alloc (.cells nil15 149)).rangeAt rb 0 (flat15 oa na sa) := World.rangeAt_alloc ha _
  have r1 : (w.alloc (.cells nil15 149)).rangeAt rb (k * 25) (flat15 ob nb sB) := World.rangeAt_alloc hb _
  go_wp2_with fail
  go_cut [7, 8] from 17 to 19 (fun v7 v8 wx => ∃ p7 p8 : Nat, v7 = .pointer (some ⟨p7, 0, none⟩) ∧ v8 = .pointer (some ⟨p8, 0, none⟩) ∧ wx.heap[p7]? = some (.cells (row15 oa na sa (.slice none 0 0)) 149 (0, 0)) ∧ wx.heap[p8]? = some (.cells (row15 ob nb sB (.slice none 0 0)) 149 (0, 0)) ∧ (w.alloc (.cells nil15 149)).grownBy wx none)
  case first =>
    refine wp_region_held_drew (S := fun w' => w'.rangeAt rb 0 (flat15 oa na sa) ∧ w'.rangeAt rb (k * 25) (flat15 ob nb sB)) (by kernel_rfl) ⟨r0, r1⟩ (fun hHeld => ?_)
    refine wpAnyH_take (i := 0) (v := .slice (some ⟨rb, 0, none⟩) (k + 1) cp) rfl (by kernel_rfl) (by kernel_rfl) (by kernel_rfl) (fun _ _ _ h => h) (Or.inl ⟨by rfl, fun w hSw => ?y0⟩) (by assumption) ?r0
    case y0 => go_simp
    simp only [Act.put, List.setIfInBounds_toArray, List.set_cons_zero, List.set_cons_succ]
    refine wpAnyH_take (i := 1) (v := .pointer (some ⟨rb, 0, none⟩)) rfl (by kernel_rfl) (by kernel_rfl) (by kernel_rfl) (fun _ _ _ h => h) (Or.inl ⟨by rfl, fun w hSw => ?y1⟩) (by assumption) ?r1
    case y1 => go_simp
    simp only [Act.put, List.setIfInBounds_toArray, List.set_cons_zero, List.set_cons_succ]
    refine wpAnyH_take (i := 2) (v := _) rfl (by kernel_rfl) (by kernel_rfl) (by kernel_rfl) (fun _ _ _ h => h) (yieldsIf_load_mid (by rfl) 149 _ (by rfl) rb 0 (by rfl) (flat15 oa na sa) _ (fun w h => h.1) hu rfl hi) (by assumption) ?_
    simp only [Act.put, List.setIfInBounds_toArray, List.set_cons_zero, List.set_cons_succ]
    refine wpAnyH_take (i := 3) (v := .slice (some ⟨rb, 0, none⟩) (k + 1) cp) rfl (by kernel_rfl) (by kernel_rfl) (by kernel_rfl) (fun _ _ _ h => h) (Or.inl ⟨by rfl, fun w hSw => ?y3⟩) (by assumption) ?r3
    case y3 => go_simp
    simp only [Act.put, List.setIfInBounds_toArray, List.set_cons_zero, List.set_cons_succ]
    refine wpAnyH_take (i := 4) (v := .slice (some ⟨rb, 0, none⟩) (k + 1) cp) rfl (by kernel_rfl) (by kernel_rfl) (by kernel_rfl) (fun _ _ _ h => h) (Or.inl ⟨by rfl, fun w hSw => ?y4⟩) (by assumption) ?r4
    case y4 => go_simp
    simp only [Act.put, List.setIfInBounds_toArray, List.set_cons_zero, List.set_cons_succ]
    refine wpAnyH_take (i := 5) (v := .int .i64 ((k : Int) + 1)) rfl (by kernel_rfl) (by kernel_rfl) (by kernel_rfl) (fun _ _ _ h => h) (Or.inl ⟨by rfl, fun w hSw => ?y5⟩) (by assumption) ?r5
    case y5 => go_simp
    simp only [Act.put, List.setIfInBounds_toArray, List.set_cons_zero, List.set_cons_succ]
    refine wpAnyH_take (i := 6) (v := .int .i64 (k : Int)) rfl (by kernel_rfl) (by kernel_rfl) (by kernel_rfl) (fun _ _ _ h => h) (Or.inl ⟨by rfl, fun w hSw => ?y6⟩) (by assumption) ?r6
    case y6 => go_simp
    simp only [Act.put, List.setIfInBounds_toArray, List.set_cons_zero, List.set_cons_succ]
    refine wpAnyH_take (i := 7) (v := .pointer (some ⟨rb, k * 25, none⟩)) rfl (by kernel_rfl) (by kernel_rfl) (by kernel_rfl) (fun _ _ _ h => h) (Or.inl ⟨by rfl, fun w hSw => ?y7⟩) (by assumption) ?r7
    case y7 => go_simp
    simp only [Act.put, List.setIfInBounds_toArray, List.set_cons_zero, List.set_cons_succ]
    refine wpAnyH_take (i := 8) (v := _) rfl (by kernel_rfl) (by kernel_rfl) (by kernel_rfl) (fun _ _ _ h => h) (yieldsIf_load_mid (by rfl) 149 _ (by rfl) rb (k * 25) (by rfl) (flat15 ob nb sB) _ (fun w h => h.2) hu rfl hi2) (by assumption) ?_
    simp only [Act.put, List.setIfInBounds_toArray, List.set_cons_zero, List.set_cons_succ]
    have sW : (w.alloc (.cells nil15 149)).drew.heap.size = w.heap.size + 1 := by simp
    have gW : (w.alloc (.cells nil15 149)).grownBy (w.alloc (.cells nil15 149)).drew none := grown_drew _
    have q0 : (w.alloc (.cells nil15 149)).drew.rangeAt rb 0 (flat15 oa na sa) := hHeld.1
    have q1 : (w.alloc (.cells nil15 149)).drew.rangeAt rb (k * 25) (flat15 ob nb sB) := hHeld.2
    clear hHeld
    change wpAnyH _ _ _ _ _ _ _ _ (w.alloc (.cells nil15 149)).drew
    generalize (w.alloc (.cells nil15 149)).drew = W at *
    refine wpAnyH_ready (rs := [9, 10]) (by kernel_rfl) (by simp) (AllReadyH.cons (by simp only [List.getElem?_toArray, List.getElem?_cons_succ, List.getElem?_cons_zero]; rfl) (fun K hK => ?_) (AllReadyH.cons (by simp only [List.getElem?_toArray, List.getElem?_cons_succ, List.getElem?_cons_zero]; rfl) (fun K hK => ?_) AllReadyH.nil))
    · go_simp
      refine hK.out _ _ ⟨World.rangeAt_alloc q0 _, World.rangeAt_alloc q1 _⟩ (fun hHeld2 => ?_)
      clear hK K
      refine wpAnyH_ready (rs := [10]) (by kernel_rfl) (by simp) (AllReadyH.cons (by simp only [List.getElem?_toArray, List.getElem?_cons_succ, List.getElem?_cons_zero]; rfl) (fun K hK => ?_) AllReadyH.nil)
      go_simp
      refine hK.out _ _ ⟨World.rangeAt_alloc (World.rangeAt_alloc q0 _) _, World.rangeAt_alloc (World.rangeAt_alloc q1 _) _⟩ (fun hHeld3 => ?_)
      clear hK K
      obtain ⟨t1, t2, t3, t4, t5⟩ := two_rows W (w.heap.size + 1) (w.heap.size + 1 + 1) (by omega) (row15 oa na sa (.slice none 0 0)) (row15 ob nb sB (.slice none 0 0)) 149
      refine wpAnyH_ready (rs := [11]) (by kernel_rfl) (by simp) (AllReadyH.cons (by simp only [List.getElem?_toArray, List.getElem?_cons_succ, List.getElem?_cons_zero]; rfl) (fun K hK => ?_) AllReadyH.nil)
      refine step_store (by rfl) 149 _ _ (by rfl) (w.heap.size + 1) (row15 oa na sa (.slice none 0 0)) (by rfl) (by rfl) 149 nil15 t1 info15 rfl (all_one _ rfl) ?_
      simp only [Act.put, List.setIfInBounds_toArray, List.set_cons_zero, List.set_cons_succ]
      refine hK.out _ _ ⟨rangeAt_setRow (World.rangeAt_alloc (World.rangeAt_alloc q0 _) _) (by omega) _, rangeAt_setRow (World.rangeAt_alloc (World.rangeAt_alloc q1 _) _) (by omega) _⟩ (fun hHeld4 => ?_)
      clear hK K
      refine wpAnyH_ready (rs := [12]) (by kernel_rfl) (by simp) (AllReadyH.cons (by simp only [List.getElem?_toArray, List.getElem?_cons_succ, List.getElem?_cons_zero]; rfl) (fun K hK => ?_) AllReadyH.nil)
      refine step_store (by rfl) 149 _ _ (by rfl) (w.heap.size + 1 + 1) (row15 ob nb sB (.slice none 0 0)) (by rfl) (by rfl) 149 nil15 t2 info15 rfl (all_one _ rfl) ?_
      simp only [Act.put, List.setIfInBounds_toArray, List.set_cons_zero, List.set_cons_succ]
      refine hK.out _ _ ⟨rangeAt_setRow (rangeAt_setRow (World.rangeAt_alloc (World.rangeAt_alloc q0 _) _) (by omega) _) (by omega) _, rangeAt_setRow (rangeAt_setRow (World.rangeAt_alloc (World.rangeAt_alloc q1 _) _) (by omega) _) (by omega) _⟩ (fun hHeld5 => ?_)
      clear hK K
      refine wpAnyH_done (by kernel_rfl) ?_ _
      go_wp2_with fail
      go_meet
      exact ⟨_, _, rfl, rfl, t3, t4, both gW t5⟩
    · go_simp
      refine hK.out _ _ ⟨World.rangeAt_alloc q0 _, World.rangeAt_alloc q1 _⟩ (fun hHeld2 => ?_)
      clear hK K
      refine wpAnyH_ready (rs := [9]) (by kernel_rfl) (by simp) (AllReadyH.cons (by simp only [List.getElem?_toArray, List.getElem?_cons_succ, List.getElem?_cons_zero]; rfl) (fun K hK => ?_) AllReadyH.nil)
      go_simp
      refine hK.out _ _ ⟨World.rangeAt_alloc (World.rangeAt_alloc q0 _) _, World.rangeAt_alloc (World.rangeAt_alloc q1 _) _⟩ (fun hHeld3 => ?_)
      clear hK K
      obtain ⟨t1, t2, t3, t4, t5⟩ := two_rows W (w.heap.size + 1 + 1) (w.heap.size + 1) (by omega) (row15 oa na sa (.slice none 0 0)) (row15 ob nb sB (.slice none 0 0)) 149
      refine wpAnyH_ready (rs := [11]) (by kernel_rfl) (by simp) (AllReadyH.cons (by simp only [List.getElem?_toArray, List.getElem?_cons_succ, List.getElem?_cons_zero]; rfl) (fun K hK => ?_) AllReadyH.nil)
      refine step_store (by rfl) 149 _ _ (by rfl) (w.heap.size + 1 + 1) (row15 oa na sa (.slice none 0 0)) (by rfl) (by rfl) 149 nil15 t1 info15 rfl (all_one _ rfl) ?_
      simp only [Act.put, List.setIfInBounds_toArray, List.set_cons_zero, List.set_cons_succ]
      refine hK.out _ _ ⟨rangeAt_setRow (World.rangeAt_alloc (World.rangeAt_alloc q0 _) _) (by omega) _, rangeAt_setRow (World.rangeAt_alloc (World.rangeAt_alloc q1 _) _) (by omega) _⟩ (fun hHeld4 => ?_)
      clear hK K
      refine wpAnyH_ready (rs := [12]) (by kernel_rfl) (by simp) (AllReadyH.cons (by simp only [List.getElem?_toArray, List.getElem?_cons_succ, List.getElem?_cons_zero]; rfl) (fun K hK => ?_) AllReadyH.nil)
      refine step_store (by rfl) 149 _ _ (by rfl) (w.heap.size + 1) (row15 ob nb sB (.slice none 0 0)) (by rfl) (by rfl) 149 nil15 t2 info15 rfl (all_one _ rfl) ?_
      simp only [Act.put, List.setIfInBounds_toArray, List.set_cons_zero, List.set_cons_succ]
      refine hK.out _ _ ⟨rangeAt_setRow (rangeAt_setRow (World.rangeAt_alloc (World.rangeAt_alloc q0 _) _) (by omega) _) (by omega) _, rangeAt_setRow (rangeAt_setRow (World.rangeAt_alloc (World.rangeAt_alloc q1 _) _) (by omega) _) (by omega) _⟩ (fun hHeld5 => ?_)
      clear hK K
      refine wpAnyH_done (by kernel_rfl) ?_ _
      go_wp2_with fail
      go_meet
      exact ⟨_, _, rfl, rfl, t3, t4, both gW t5⟩
  case rest =>
    have hz1 : sa.size + sB.size ≤ 32768 := by omega
    have hz2 : (sa ++ sB).size ≤ 32768 := by rw [ByteArray.size_append]; exact hz1
    clear ha hb r0 r1 hi hi2 hu k2 k3 k4 k5 k6 k0 k1 hc
    obtain ⟨p7, p8, rfl, rfl, h7, h8, gx⟩ := hcut
    have hsb := heap_lt hs
    have hsx := (gx.block _ (Nat.lt_of_lt_of_le hsb (grown_alloc w (.cells nil15 149)).size) (by nofun)).trans (((grown_alloc w (.cells nil15 149)).block _ hsb (by nofun)).trans hs)
    have HG := Lib.hid gx
    clear gx hs
    have c71 := (cell_of_row _ p7 1 _ _ _ h7).trans (show _ = some (Value.int .i64 na) from rfl)
    have c72 := (cell_of_row _ p7 2 _ _ _ h7).trans (show _ = some (Value.string sa) from rfl)
    have c81 := (cell_of_row _ p8 1 _ _ _ h8).trans (show _ = some (Value.int .i64 nb) from rfl)
    have c82 := (cell_of_row _ p8 2 _ _ _ h8).trans (show _ = some (Value.string sB) from rfl)
    clear h7 h8
    rcases hn with rfl | rfl | rfl | rfl | rfl | rfl | rfl | rfl | rfl | rfl | rfl | rfl | rfl
    · have hr : primR 1 na nb sa sB sh = numR (na + nb) := primR_1 na nb sa sB sh
      go_wp2_with (first
        | (go_at_call 100; refine (number15_any sb _ _ hsx).mono ?_; rintro e w2 HA; obtain ⟨cs, rfl, hc25, hone, hcell, HE⟩ := ans_end HA HG.out hsb)
        | (refine wpList_store_row rfl 149 _ _ rfl w.heap.size cs rfl rfl 149 nil15 hcell (by rw [hc25]; exact info15) (by rw [hc25]; rfl) hone ?_))
      exact bodyPost_ret (results_cell_row rfl _ _ w.heap.size 149 _ (0, 0) _ rfl (setRow_heap _ _ _ _ _ _ hcell) Tryz.underlying149 rfl (by rw [hc25]; exact info15)) rfl (by rw [hr]; exact HE)
    · have hr : primR 2 na nb sa sB sh = numR (na - nb) := primR_2 na nb sa sB sh
      go_wp2_with (first
        | (go_at_call 100; refine (number15_any sb _ _ hsx).mono ?_; rintro e w2 HA; obtain ⟨cs, rfl, hc25, hone, hcell, HE⟩ := ans_end HA HG.out hsb)
        | (refine wpList_store_row rfl 149 _ _ rfl w.heap.size cs rfl rfl 149 nil15 hcell (by rw [hc25]; exact info15) (by rw [hc25]; rfl) hone ?_))
      exact bodyPost_ret (results_cell_row rfl _ _ w.heap.size 149 _ (0, 0) _ rfl (setRow_heap _ _ _ _ _ _ hcell) Tryz.underlying149 rfl (by rw [hc25]; exact info15)) rfl (by rw [hr]; exact HE)
    · have hr : primR 3 na nb sa sB sh = numR (timesP na nb) := primR_3 na nb sa sB sh
      go_wp2_with (first
        | (go_at_call 101; refine (times15_any na nb _ hra hrb).mono ?_; rintro e w1 ⟨rfl, rfl⟩)
        | (go_at_call 100; refine (number15_any sb _ _ hsx).mono ?_; rintro e w2 HA; obtain ⟨cs, rfl, hc25, hone, hcell, HE⟩ := ans_end HA HG.out hsb)
        | (refine wpList_store_row rfl 149 _ _ rfl w.heap.size cs rfl rfl 149 nil15 hcell (by rw [hc25]; exact info15) (by rw [hc25]; rfl) hone ?_))
      exact bodyPost_ret (results_cell_row rfl _ _ w.heap.size 149 _ (0, 0) _ rfl (setRow_heap _ _ _ _ _ _ hcell) Tryz.underlying149 rfl (by rw [hc25]; exact info15)) rfl (by rw [hr]; exact HE)
    · have hr : primR 4 na nb sa sB sh = (if nb = 0 then .fail 3 else numR (wrap64 (Int.tdiv na nb))) := rfl
      by_cases h0 : nb = 0
      · rw [if_pos h0] at hr
        go_wp2_with (first
          | (go_at_call 102; refine (stop15_any sb 2 3 _ hsx).mono ?_; rintro e w2 HA; obtain ⟨cs, rfl, hc25, hone, hcell, HE⟩ := ans_end (r := .fail 3) HA HG.out hsb)
          | (refine wpList_store_row rfl 149 _ _ rfl w.heap.size cs rfl rfl 149 nil15 hcell (by rw [hc25]; exact info15) (by rw [hc25]; rfl) hone ?_))
        exact bodyPost_ret (results_cell_row rfl _ _ w.heap.size 149 _ (0, 0) _ rfl (setRow_heap _ _ _ _ _ _ hcell) Tryz.underlying149 rfl (by rw [hc25]; exact info15)) rfl (by rw [hr]; exact HE)
      · rw [if_neg h0] at hr
        go_wp2_with (first
          | (go_at_call 100; refine (number15_any sb _ _ hsx).mono ?_; rintro e w2 HA; obtain ⟨cs, rfl, hc25, hone, hcell, HE⟩ := ans_end HA HG.out hsb)
          | (refine wpList_store_row rfl 149 _ _ rfl w.heap.size cs rfl rfl 149 nil15 hcell (by rw [hc25]; exact info15) (by rw [hc25]; rfl) hone ?_))
        exact bodyPost_ret (results_cell_row rfl _ _ w.heap.size 149 _ (0, 0) _ rfl (setRow_heap _ _ _ _ _ _ hcell) Tryz.underlying149 rfl (by rw [hc25]; exact info15)) rfl (by rw [hr]; exact HE)
    · have hr : primR 5 na nb sa sB sh = (if nb = 0 then .fail 3 else numR (Int.tmod na nb)) := rfl
      by_cases h0 : nb = 0
      · rw [if_pos h0] at hr
        go_wp2_with (first
          | (go_at_call 102; refine (stop15_any sb 2 3 _ hsx).mono ?_; rintro e w2 HA; obtain ⟨cs, rfl, hc25, hone, hcell, HE⟩ := ans_end (r := .fail 3) HA HG.out hsb)
          | (refine wpList_store_row rfl 149 _ _ rfl w.heap.size cs rfl rfl 149 nil15 hcell (by rw [hc25]; exact info15) (by rw [hc25]; rfl) hone ?_))
        exact bodyPost_ret (results_cell_row rfl _ _ w.heap.size 149 _ (0, 0) _ rfl (setRow_heap _ _ _ _ _ _ hcell) Tryz.underlying149 rfl (by rw [hc25]; exact info15)) rfl (by rw [hr]; exact HE)
      · rw [if_neg h0] at hr
        go_wp2_with (first
          | (go_at_call 100; refine (number15_any sb _ _ hsx).mono ?_; rintro e w2 HA; obtain ⟨cs, rfl, hc25, hone, hcell, HE⟩ := ans_end HA HG.out hsb)
          | (refine wpList_store_row rfl 149 _ _ rfl w.heap.size cs rfl rfl 149 nil15 hcell (by rw [hc25]; exact info15) (by rw [hc25]; rfl) hone ?_))
        exact bodyPost_ret (results_cell_row rfl _ _ w.heap.size 149 _ (0, 0) _ rfl (setRow_heap _ _ _ _ _ _ hcell) Tryz.underlying149 rfl (by rw [hc25]; exact info15)) rfl (by rw [hr]; exact HE)
    · have hr : primR 6 na nb sa sB sh = numR (-na) := primR_6 na nb sa sB sh
      go_wp2_with (first
        | (go_at_call 100; refine (number15_any sb _ _ hsx).mono ?_; rintro e w2 HA; obtain ⟨cs, rfl, hc25, hone, hcell, HE⟩ := ans_end HA HG.out hsb)
        | (refine wpList_store_row rfl 149 _ _ rfl w.heap.size cs rfl rfl 149 nil15 hcell (by rw [hc25]; exact info15) (by rw [hc25]; rfl) hone ?_))
      exact bodyPost_ret (results_cell_row rfl _ _ w.heap.size 149 _ (0, 0) _ rfl (setRow_heap _ _ _ _ _ _ hcell) Tryz.underlying149 rfl (by rw [hc25]; exact info15)) rfl (by rw [hr]; exact HE)
    · have hr : primR 7 na nb sa sB sh = .bool (decide (na < nb)) := rfl
      go_wp2_with (first
        | (go_at_call 103; refine (truth15_any _ sb _).mono ?_; rintro e w2 HA; obtain ⟨cs, rfl, hc25, hone, hcell, HE⟩ := ans_end HA HG.out hsb)
        | (refine wpList_store_row rfl 149 _ _ rfl w.heap.size cs rfl rfl 149 nil15 hcell (by rw [hc25]; exact info15) (by rw [hc25]; rfl) hone ?_))
      exact bodyPost_ret (results_cell_row rfl _ _ w.heap.size 149 _ (0, 0) _ rfl (setRow_heap _ _ _ _ _ _ hcell) Tryz.underlying149 rfl (by rw [hc25]; exact info15)) rfl (by rw [hr]; exact HE)
    · have hr : primR 8 na nb sa sB sh = .bool (decide (na ≤ nb)) := rfl
      go_wp2_with (first
        | (go_at_call 103; refine (truth15_any _ sb _).mono ?_; rintro e w2 HA; obtain ⟨cs, rfl, hc25, hone, hcell, HE⟩ := ans_end HA HG.out hsb)
        | (refine wpList_store_row rfl 149 _ _ rfl w.heap.size cs rfl rfl 149 nil15 hcell (by rw [hc25]; exact info15) (by rw [hc25]; rfl) hone ?_))
      exact bodyPost_ret (results_cell_row rfl _ _ w.heap.size 149 _ (0, 0) _ rfl (setRow_heap _ _ _ _ _ _ hcell) Tryz.underlying149 rfl (by rw [hc25]; exact info15)) rfl (by rw [hr]; exact HE)
    · have hr : primR 9 na nb sa sB sh = .bool (na == nb) := rfl
      go_wp2_with (first
        | (go_at_call 103; refine (truth15_any _ sb _).mono ?_; rintro e w2 HA; obtain ⟨cs, rfl, hc25, hone, hcell, HE⟩ := ans_end HA HG.out hsb)
        | (refine wpList_store_row rfl 149 _ _ rfl w.heap.size cs rfl rfl 149 nil15 hcell (by rw [hc25]; exact info15) (by rw [hc25]; rfl) hone ?_))
      exact bodyPost_ret (results_cell_row rfl _ _ w.heap.size 149 _ (0, 0) _ rfl (setRow_heap _ _ _ _ _ _ hcell) Tryz.underlying149 rfl (by rw [hc25]; exact info15)) rfl (by rw [hr]; exact HE)
    · have hr : primR 10 na nb sa sB sh = textR (sa ++ sB) := primR_10 na nb sa sB sh
      go_wp2_with (first
        | (go_at_call 104; refine (text15_any sb _ _ hsx).mono ?_; rintro e w2 HA; obtain ⟨cs, rfl, hc25, hone, hcell, HE⟩ := ans_end HA HG.out hsb)
        | (refine wpList_store_row rfl 149 _ _ rfl w.heap.size cs rfl rfl 149 nil15 hcell (by rw [hc25]; exact info15) (by rw [hc25]; rfl) hone ?_))
      exact bodyPost_ret (results_cell_row rfl _ _ w.heap.size 149 _ (0, 0) _ rfl (setRow_heap _ _ _ _ _ _ hcell) Tryz.underlying149 rfl (by rw [hc25]; exact info15)) rfl (by rw [hr]; exact HE)
    · have hr : primR 11 na nb sa sB sh = numR sa.size := primR_11 na nb sa sB sh
      go_wp2_with (first
        | (go_at_call 100; refine (number15_any sb _ _ hsx).mono ?_; rintro e w2 HA; obtain ⟨cs, rfl, hc25, hone, hcell, HE⟩ := ans_end HA HG.out hsb)
        | (refine wpList_store_row rfl 149 _ _ rfl w.heap.size cs rfl rfl 149 nil15 hcell (by rw [hc25]; exact info15) (by rw [hc25]; rfl) hone ?_))
      exact bodyPost_ret (results_cell_row rfl _ _ w.heap.size 149 _ (0, 0) _ rfl (setRow_heap _ _ _ _ _ _ hcell) Tryz.underlying149 rfl (by rw [hc25]; exact info15)) rfl (by rw [hr]; exact HE)
    · have hr : primR 12 na nb sa sB sh = .bool (sa.toList == sB.toList) := rfl
      go_wp2_with (first
        | (go_at_call 103; refine (truth15_any _ sb _).mono ?_; rintro e w2 HA; obtain ⟨cs, rfl, hc25, hone, hcell, HE⟩ := ans_end HA HG.out hsb)
        | (refine wpList_store_row rfl 149 _ _ rfl w.heap.size cs rfl rfl 149 nil15 hcell (by rw [hc25]; exact info15) (by rw [hc25]; rfl) hone ?_))
      exact bodyPost_ret (results_cell_row rfl _ _ w.heap.size 149 _ (0, 0) _ rfl (setRow_heap _ _ _ _ _ _ hcell) Tryz.underlying149 rfl (by rw [hc25]; exact info15)) rfl (by rw [hr]; exact HE)
    · have hr : primR 13 na nb sa sB sh = textR sh := primR_13 na nb sa sB sh
      go_wp2_with (first
        | (go_at_call 105; refine (HSh.out _).mono ?_; rintro e w1 ⟨rfl, hg1⟩; have hsx := (hg1.block _ (heap_lt hsx) (by nofun)).trans hsx; have HG := Lib.hid (both HG.out hg1))
        | (go_at_call 104; refine (text15_any sb _ _ hsx).mono ?_; rintro e w2 HA; obtain ⟨cs, rfl, hc25, hone, hcell, HE⟩ := ans_end HA HG.out hsb)
        | (refine wpList_store_row rfl 149 _ _ rfl w.heap.size cs rfl rfl 149 nil15 hcell (by rw [hc25]; exact info15) (by rw [hc25]; rfl) hone ?_))
      exact bodyPost_ret (results_cell_row rfl _ _ w.heap.size 149 _ (0, 0) _ rfl (setRow_heap _ _ _ _ _ _ hcell) Tryz.underlying149 rfl (by rw [hc25]; exact info15)) rfl (by rw [hr]; exact HE)
end Go.Proofs.YtidolpcbbbakmaaGreat
