/- Prim of the reference of layer 15: two operands that fit. -/
import Derived.Test.YtidolpcbbbakmaaGreatM32
namespace Go.Proofs.YtidolpcbbbakmaaGreat
open Go Go.RowKit
set_option maxRecDepth 100000 in
set_option maxHeartbeats 4000000 in
theorem Prim15_bad1 (rb cp : Nat) (n oa na ob nb : Int) (sa sB sh : ByteArray) (w : World) (ha : w.rangeAt rb 0 (listV oa na sa)) (hb : w.rangeAt rb 5 (listV ob nb sB)) (hc : 2 ≤ cp) (hn1 : 1 ≤ n) (hn2 : n ≤ 13) (hf : oa = wantP n) (hg : ob = wantP n) (har : 2 = arityP n)
    (hva : flatOk oa na sa = false) :
    Calls Tryz.prog 81 #[.int .i64 n, .slice (some ⟨rb, 0, none⟩) 2 cp] w (PAns false (primR n na nb sa sB sh) w) := by
  have ho : oa = 1 ∨ oa = 2 := by
    unfold wantP at hf
    split at hf <;> omega
  have hp : ob = 1 ∨ ob = 2 := by
    unfold wantP at hg
    split at hg <;> omega
  have HVa : ∀ wx, Calls Tryz.prog 91 #[.agg (listV oa na sa).toArray] wx fun e w' => e = .returned (.bool (flatOk oa na sa)) ∧ wx.grownBy w' none := fun wx => valid14_flat oa na sa wx ho
  rw [hva] at HVa
  clear hva hp
  have Hf := Lib.hid hf
  have Hg := Lib.hid hg
  have Har := Lib.hid har
  clear hf hg har
  have g0 := grown_alloc w (.cells (rowV 0 0 ⟨#[]⟩ (.slice none 0 0)) 48)
  have n0 := heap_alloc_new w (.cells (rowV 0 0 ⟨#[]⟩ (.slice none 0 0)) 48)
  go_enter Tryz.func81, Tryz.ntmps81
  go_upto_region 1 with fail
  change Code.wp _ _ _ _ (w.alloc (.cells (rowV 0 0 ⟨#[]⟩ (.slice none 0 0)) 48))
  generalize w.alloc (.cells (rowV 0 0 ⟨#[]⟩ (.slice none 0 0)) 48) = W at *
  have ra := range_grown ha g0
  have rb' := range_grown hb g0
  go_wp2_with fail
  refine wp_loop_rounds 3 ?_
  rw [rounds_succ]
  go_wp2_with (first
    | (refine wpList_load_mid rfl 48 _ rfl rb 0 rfl (listV oa na sa) _ ra Tryz.underlying48 rfl infoV ?_)
    | (go_at_call 91; refine (HVa _).mono ?_; rintro e w1 ⟨rfl, g1⟩; have n1 := (g1.block _ (heap_lt n0) (by nofun)).trans n0)
    | (refine wpList_store_row rfl 48 _ _ rfl w.heap.size (rowV 0 0 ⟨#[]⟩ (.slice none 0 0)) rfl rfl 48 _ n1 infoV rfl (all_one _ rfl) ?_))
  have q1 := setRow_heap _ _ _ (rowV 0 0 ⟨#[]⟩ (.slice none 0 0)) _ _ n1
  exact bodyPost_ret (results_row_tmp2 (p := 4) (u := 5) (v := 6) rfl _ _ w.heap.size 48 _ (0, 0) _ rfl q1 Tryz.underlying48 infoV) rfl ⟨grown_setRow (both g0 g1) (Nat.le_refl _) _, by rw [if_pos rfl]; rfl⟩
set_option maxRecDepth 100000 in
set_option maxHeartbeats 4000000 in
theorem Prim15_bad2 (rb cp : Nat) (n oa na ob nb : Int) (sa sB sh : ByteArray) (w : World) (ha : w.rangeAt rb 0 (listV oa na sa)) (hb : w.rangeAt rb 5 (listV ob nb sB)) (hc : 2 ≤ cp) (hn1 : 1 ≤ n) (hn2 : n ≤ 13) (hf : oa = wantP n) (hg : ob = wantP n) (har : 2 = arityP n)
    (hva : flatOk oa na sa = true) (hvb : flatOk ob nb sB = false) :
    Calls Tryz.prog 81 #[.int .i64 n, .slice (some ⟨rb, 0, none⟩) 2 cp] w (PAns false (primR n na nb sa sB sh) w) := by
  have ho : oa = 1 ∨ oa = 2 := by
    unfold wantP at hf
    split at hf <;> omega
  have hp : ob = 1 ∨ ob = 2 := by
    unfold wantP at hg
    split at hg <;> omega
  have HVa : ∀ wx, Calls Tryz.prog 91 #[.agg (listV oa na sa).toArray] wx fun e w' => e = .returned (.bool (flatOk oa na sa)) ∧ wx.grownBy w' none := fun wx => valid14_flat oa na sa wx ho
  have HVb : ∀ wx, Calls Tryz.prog 91 #[.agg (listV ob nb sB).toArray] wx fun e w' => e = .returned (.bool (flatOk ob nb sB)) ∧ wx.grownBy w' none := fun wx => valid14_flat ob nb sB wx hp
  rw [hva] at HVa
  rw [hvb] at HVb
  clear hva hvb
  have Hf := Lib.hid hf
  have Hg := Lib.hid hg
  have Har := Lib.hid har
  clear hf hg har
  have g0 := grown_alloc w (.cells (rowV 0 0 ⟨#[]⟩ (.slice none 0 0)) 48)
  have n0 := heap_alloc_new w (.cells (rowV 0 0 ⟨#[]⟩ (.slice none 0 0)) 48)
  go_enter Tryz.func81, Tryz.ntmps81
  go_upto_region 1 with fail
  change Code.wp _ _ _ _ (w.alloc (.cells (rowV 0 0 ⟨#[]⟩ (.slice none 0 0)) 48))
  generalize w.alloc (.cells (rowV 0 0 ⟨#[]⟩ (.slice none 0 0)) 48) = W at *
  have ra := range_grown ha g0
  have rb' := range_grown hb g0
  go_wp2_with fail
  refine wp_loop_rounds 3 ?_
  rw [rounds_succ]
  go_wp2_with (first
    | (refine wpList_load_mid rfl 48 _ rfl rb 0 rfl (listV oa na sa) _ ra Tryz.underlying48 rfl infoV ?_)
    | (go_at_call 91; refine (HVa _).mono ?_; rintro e w0 ⟨rfl, g1⟩))
  have n9 := (g1.block _ (heap_lt n0) (by nofun)).trans n0
  have r9 := range_grown rb' g1
  rw [rounds_succ]
  go_wp2_with (first
    | (refine wpList_load_mid rfl 48 _ rfl rb 5 rfl (listV ob nb sB) _ r9 Tryz.underlying48 rfl infoV ?_)
    | (go_at_call 91; refine (HVb _).mono ?_; rintro e w1 ⟨rfl, g2⟩; have n1 := (g2.block _ (heap_lt n9) (by nofun)).trans n9)
    | (refine wpList_store_row rfl 48 _ _ rfl w.heap.size (rowV 0 0 ⟨#[]⟩ (.slice none 0 0)) rfl rfl 48 _ n1 infoV rfl (all_one _ rfl) ?_))
  have q1 := setRow_heap _ _ _ (rowV 0 0 ⟨#[]⟩ (.slice none 0 0)) _ _ n1
  exact bodyPost_ret (results_row_tmp2 (p := 4) (u := 5) (v := 6) rfl _ _ w.heap.size 48 _ (0, 0) _ rfl q1 Tryz.underlying48 infoV) rfl ⟨grown_setRow (both (both g0 g1) g2) (Nat.le_refl _) _, by rw [if_pos rfl]; rfl⟩
set_option maxRecDepth 100000 in
set_option maxHeartbeats 4000000 in
theorem Prim15_two (rb cp : Nat) (n oa na ob nb : Int) (sa sB sh : ByteArray) (w : World) (ha : w.rangeAt rb 0 (listV oa na sa)) (hb : w.rangeAt rb 5 (listV ob nb sB)) (hc : 2 ≤ cp) (hn1 : 1 ≤ n) (hn2 : n ≤ 13) (hf : oa = wantP n) (hg : ob = wantP n) (har : 2 = arityP n)
    (hva : flatOk oa na sa = true) (hvb : flatOk ob nb sB = true) (HSh : -4503599627370496 ≤ na → na ≤ 4503599627370496 → Hid (∀ wx, Calls Tryz.prog 105 #[.int .i64 na] wx fun e w' => e = .returned (.string sh) ∧ wx.grownBy w' none)) :
    Calls Tryz.prog 81 #[.int .i64 n, .slice (some ⟨rb, 0, none⟩) 2 cp] w (PAns true (primR n na nb sa sB sh) w) := by
  have ho : oa = 1 ∨ oa = 2 := by
    unfold wantP at hf
    split at hf <;> omega
  have hp : ob = 1 ∨ ob = 2 := by
    unfold wantP at hg
    split at hg <;> omega
  obtain ⟨hra, hsz⟩ := nums_of ho hva
  obtain ⟨hrb, hsy⟩ := nums_of hp hvb
  have hSh := HSh hra.1 hra.2
  have HVa : ∀ wx, Calls Tryz.prog 91 #[.agg (listV oa na sa).toArray] wx fun e w' => e = .returned (.bool (flatOk oa na sa)) ∧ wx.grownBy w' none := fun wx => valid14_flat oa na sa wx ho
  have HVb : ∀ wx, Calls Tryz.prog 91 #[.agg (listV ob nb sB).toArray] wx fun e w' => e = .returned (.bool (flatOk ob nb sB)) ∧ wx.grownBy w' none := fun wx => valid14_flat ob nb sB wx hp
  have HB : ∀ wx, Calls Tryz.prog 92 #[.agg (listV oa na sa).toArray] wx fun e w' => e = .returned (.tuple #[.agg (row15 oa na sa (.slice none 0 0)), .bool true]) ∧ wx.grownBy w' none := by
    intro wx
    rcases ho with rfl | rfl
    · exact back15_1 na sa wx
    · exact back15_2 na sa wx
  have HBb : ∀ wx, Calls Tryz.prog 92 #[.agg (listV ob nb sB).toArray] wx fun e w' => e = .returned (.tuple #[.agg (row15 ob nb sB (.slice none 0 0)), .bool true]) ∧ wx.grownBy w' none := by
    intro wx
    rcases hp with rfl | rfl
    · exact back15_1 nb sB wx
    · exact back15_2 nb sB wx
  rw [hva] at HVa
  rw [hvb] at HVb
  clear hva hvb HSh
  have Hf := Lib.hid hf
  have Hg := Lib.hid hg
  have Har := Lib.hid har
  clear hf hg har
  have g0 := grown_alloc w (.cells (rowV 0 0 ⟨#[]⟩ (.slice none 0 0)) 48)
  have n0 := heap_alloc_new w (.cells (rowV 0 0 ⟨#[]⟩ (.slice none 0 0)) 48)
  have HF : ∀ g cap wx, wx.rangeAt g 0 (flat15 oa na sa) → wx.rangeAt g 25 (flat15 ob nb sB) → Calls Tryz.prog 80 #[.int .i64 n, .slice (some ⟨g, 0, none⟩) 2 cap] wx fun e w' => e = .returned (.bool true) ∧ wx = w' := by
    intro g cap wx hr hs
    refine (fit15_two g cap n oa ob wx (hr 0 _ rfl) (hs 0 _ rfl)).mono ?_
    rintro e w' ⟨rfl, rfl⟩
    refine ⟨?_, rfl⟩
    rw [← Har.out, ← Hf.out, Hg.out, ← Hf.out]
    simp
  obtain ⟨ii0, hii, hiz0, hiz1, hiz2⟩ := parts_info info_val15
  go_enter Tryz.func81, Tryz.ntmps81
  go_upto_region 1 with fail
  change Code.wp _ _ _ _ (w.alloc (.cells (rowV 0 0 ⟨#[]⟩ (.slice none 0 0)) 48))
  generalize w.alloc (.cells (rowV 0 0 ⟨#[]⟩ (.slice none 0 0)) 48) = W at *
  have ra := range_grown ha g0
  have rb' := range_grown hb g0
  go_wp2_with fail
  refine wp_loop_rounds 3 ?_
  rw [rounds_succ]
  go_wp2_with (first
    | (refine wpList_load_mid rfl 48 _ rfl rb 0 rfl (listV oa na sa) _ ra Tryz.underlying48 rfl infoV ?_)
    | (go_at_call 91; refine (HVa _).mono ?_; rintro e w0 ⟨rfl, g1⟩))
  have n9 := (g1.block _ (heap_lt n0) (by nofun)).trans n0
  have q9 := range_grown ra g1
  have r9 := range_grown rb' g1
  rw [rounds_succ]
  go_wp2_with (first
    | (refine wpList_load_mid rfl 48 _ rfl rb 5 rfl (listV ob nb sB) _ r9 Tryz.underlying48 rfl infoV ?_)
    | (go_at_call 91; refine (HVb _).mono ?_; rintro e w1 ⟨rfl, g2⟩))
  have n1 := (g2.block _ (heap_lt n9) (by nofun)).trans n9
  have q1 := range_grown q9 g2
  have r1 := range_grown r9 g2
  have G1 := both (both g0 g1) g2
  clear ra rb' q9 r9 n0 n9 g0 g1 g2 HVa HVb
  rw [rounds_succ]
  go_wp2_with fail
  refine wp_loop_rounds 3 ?_
  rw [rounds_succ]
  go_upto_region 13 with (first
    | (refine wpList_load_mid rfl 48 _ rfl rb 0 rfl (listV oa na sa) _ q1 Tryz.underlying48 rfl infoV ?_)
    | (go_at_call 92; refine (HB _).mono ?_; rintro e w2 ⟨rfl, g2⟩)
    | (refine wpList_store_row rfl 149 _ _ rfl w2.heap.size (row15 oa na sa (.slice none 0 0)) rfl rfl 149 _ (heap_alloc_new w2 _) info15 rfl (all_one _ rfl) ?_))
  have n3 := setRow_heap _ _ _ (row15 oa na sa (.slice none 0 0)) _ _ (heap_alloc_new w2 (.cells nil15 149))
  have g3 := grown_setRow (grown_alloc w2 (.cells nil15 149)) (Nat.le_refl _) (row15 oa na sa (.slice none 0 0))
  have G2 := both G1 g2
  have n2 := (g2.block _ (heap_lt n1) (by nofun)).trans n1
  have r2 := range_grown r1 g2
  change Code.wp _ _ _ _ ((w2.alloc (.cells nil15 149)).setRow w2.heap.size (row15 oa na sa (.slice none 0 0)))
  generalize (w2.alloc (.cells nil15 149)).setRow w2.heap.size (row15 oa na sa (.slice none 0 0)) = V at *
  have G3 := both G2 g3
  have n4 := (g3.block _ (heap_lt n2) (by nofun)).trans n2
  have r3 := range_grown r2 g3
  clear n1 n2 g2 g3 G1 G2 r1 r2 q1 HB
  go_upto_region 15 with fail
  go_wp2_with (first
    | (refine wpList_load_row rfl 149 _ rfl w2.heap.size rfl 149 (row15 oa na sa (.slice none 0 0)) (0, 0) _ n3 Tryz.underlying149 rfl info15 ?_)
    | (refine one15 rfl _ rfl _ rfl rfl ?_)
    | (at_builtin; refine wpList_append_lies _ rfl _ _ 138 rfl (w.heap.size + 1) 149 ii0 (.agg nil15) 25 424 Tryz.underlying138 hii hiz0 hiz1 hiz2 rfl (by decide) (.slice none 0 0) 0 [] rfl ⟨rfl, .inl ⟨rfl, rfl⟩⟩ ⟨V.heap.size, 0, none⟩ 1 1 (flat15 oa na sa) rfl rfl ?c1 ?c2 (by decide) ?c3 ?c4 ?c5 _ rfl ?_))
  case c1 => exact World.news_of_block (cs := row15 oa na sa (.slice none 0 0)) (new_heap V _)
  case c2 => exact List.all_eq_true.1 (show (flat15 oa na sa).all (·.oneCell') = true from rfl)
  case c3 => unfold maxLen; omega
  case c4 => omega
  case c5 => simp; have := heap_lt n4; omega
  intro g cap w4 hown hgrow hat hlt4
  have g4 := both (grown_alloc V _) hgrow
  have G4 := both G3 g4
  have n5 := (g4.block _ (heap_lt n4) (by nofun)).trans n4
  have r4 := range_grown r3 g4
  have hcap : 1 ≤ cap := by
    obtain ⟨_, h | ⟨g', cap', cur, hv, _, _, h1, _⟩⟩ := hown
    · cases h.1
    · cases hv; omega
  clear n3 n4 g4 G3 hgrow hat r3
  go_wp2_with fail
  rw [rounds_succ]
  go_upto_region 13 with (first
    | (refine wpList_load_mid rfl 48 _ rfl rb 5 rfl (listV ob nb sB) _ r4 Tryz.underlying48 rfl infoV ?_)
    | (go_at_call 92; refine (HBb _).mono ?_; rintro e w3 ⟨rfl, g2⟩)
    | (refine wpList_store_row rfl 149 _ _ rfl w3.heap.size (row15 ob nb sB (.slice none 0 0)) rfl rfl 149 _ (heap_alloc_new w3 _) info15 rfl (all_one _ rfl) ?_))
  have n3 := setRow_heap _ _ _ (row15 ob nb sB (.slice none 0 0)) _ _ (heap_alloc_new w3 (.cells nil15 149))
  have g3 := grown_setRow (grown_alloc w3 (.cells nil15 149)) (Nat.le_refl _) (row15 ob nb sB (.slice none 0 0))
  have G2 := both G4 g2
  have n2 := (g2.block _ (heap_lt n5) (by nofun)).trans n5
  have hown2 := owns_grown hown (both g2 g3) (by nofun)
  change Code.wp _ _ _ _ ((w3.alloc (.cells nil15 149)).setRow w3.heap.size (row15 ob nb sB (.slice none 0 0)))
  generalize (w3.alloc (.cells nil15 149)).setRow w3.heap.size (row15 ob nb sB (.slice none 0 0)) = V2 at *
  have G3 := both G2 g3
  have n4 := (g3.block _ (heap_lt n2) (by nofun)).trans n2
  clear n5 n2 g2 g3 G4 G2 r4 HBb hown hlt4
  have hown3 := owns_grown hown2 (grown_alloc V2 (.cells (row15 ob nb sB (.slice none 0 0)) 149)) (by nofun)
  go_upto_region 15 with fail
  go_wp2_with (first
    | (refine wpList_load_row rfl 149 _ rfl w3.heap.size rfl 149 (row15 ob nb sB (.slice none 0 0)) (0, 0) _ n3 Tryz.underlying149 rfl info15 ?_)
    | (refine one15 rfl _ rfl _ rfl rfl ?_)
    | (at_builtin; refine wpList_append_lies _ rfl _ _ 138 rfl (w.heap.size + 1) 149 ii0 (.agg nil15) 25 424 Tryz.underlying138 hii hiz0 hiz1 hiz2 rfl (by decide) (.slice (some ⟨g, 0, none⟩) 1 cap) 1 (flat15 oa na sa) rfl hown3 ⟨V2.heap.size, 0, none⟩ 1 1 (flat15 ob nb sB) rfl rfl ?c1 ?c2 (by decide) ?c3 ?c4 ?c5 _ rfl ?_))
  case c1 => exact World.news_of_block (cs := row15 ob nb sB (.slice none 0 0)) (new_heap V2 _)
  case c2 => exact List.all_eq_true.1 (show (flat15 ob nb sB).all (·.oneCell') = true from rfl)
  case c3 => unfold maxLen; omega
  case c4 => omega
  case c5 => simp; have := heap_lt n4; omega
  have hgo := owns_lt hown3 g rfl
  clear hown2 hown3 hcap
  intro g' cap' w4 hown hgrow hat hlt4
  have g4 := grown_alloc V2 (.cells (row15 ob nb sB (.slice none 0 0)) 149)
  have G4 := grown_new (k := g) (both G3 g4) hgrow (Nat.le_of_succ_le hgo.1)
  have n5 := (hgrow.block _ (heap_lt ((g4.block _ (heap_lt n4) (by nofun)).trans n4)) (fun e => by have h1 := Option.some.inj e; have h2 := hgo.1; dsimp only at h1; omega)).trans ((g4.block _ (heap_lt n4) (by nofun)).trans n4)
  have rf : w4.rangeAt g' 0 (flat15 oa na sa) := fun j u hu => by
    have h0 : (flat15 oa na sa ++ flat15 ob nb sB)[j]? = some u := by
      have hj : j < (flat15 oa na sa).length := (List.getElem?_eq_some_iff.1 hu).1
      rw [List.getElem?_append_left hj]; exact hu
    have := hown.cells rfl j u h0
    rw [Addr.add_mid] at this
    exact this
  have re : w4.rangeAt g' 25 (flat15 ob nb sB) := fun j u hu => by
    have h0 : (flat15 oa na sa ++ flat15 ob nb sB)[25 + j]? = some u := by
      have hl : (flat15 oa na sa).length = 25 := rfl
      rw [List.getElem?_append_right (by omega), hl, Nat.add_sub_cancel_left]; exact hu
    have := hown.cells rfl (25 + j) u h0
    rw [Addr.add_mid, Nat.zero_add] at this
    exact this
  have hcap : 2 ≤ cap' := by
    obtain ⟨_, h | ⟨g', cap', cur, hv, _, _, h1, _⟩⟩ := hown
    · cases h.1
    · cases hv; omega
  clear n3 n4 g4 G3 hown hgrow hat
  go_wp2_with fail
  rw [rounds_succ]
  go_wp2_with (first
    | (go_at_call 80; refine (HF _ _ _ rf re).mono ?_; rintro e w' ⟨rfl, rfl⟩))
  have hS := new_heap w4 (.cells (st15 0 0) 163)
  have gS := grown_alloc w4 (.cells (st15 0 0) 163)
  have rg := range_grown rf gS
  have rh := range_grown re gS
  have HP := prim15_any w4.heap.size g' cap' 1 n oa na ob nb sa sB sh _ hS rg rh (Nat.lt_of_lt_of_le hlt4 gS.size) hcap (Or.inr rfl) (by omega) hra hrb ⟨hsz, hsy⟩ hSh
  have n6 := (gS.block _ (heap_lt n5) (by nofun)).trans n5
  have GS := both G4 gS
  have e4 : w4.heap.size < (w4.alloc (.cells (st15 0 0) 163)).heap.size := heap_lt hS
  have zw := G4.size
  have z5 := heap_lt n5
  clear n5 G4 gS rf rg re rh HF hSh
  generalize primR n na nb sa sB sh = r at *
  change Calls _ _ _ (w4.alloc (.cells (st15 0 0) 163)) _
  generalize w4.alloc (.cells (st15 0 0) 163) = X at *
  refine HP.mono ?_
  intro e w5 HA
  cases r with
  | fail c =>
    obtain ⟨rfl, hS5, g5⟩ := HA
    have n7 := (g5.block _ (heap_lt n6) (fun e => by have := Option.some.inj e; omega)).trans n6
    go_upto_region 20 with (refine wpList_store_row rfl 149 _ _ rfl w5.heap.size (nil15) rfl rfl 149 _ (heap_alloc_new w5 _) info15 rfl (all_one _ rfl) ?_)
    have gN := grown_setRow (grown_alloc w5 (.cells nil15 149)) (Nat.le_refl _) (nil15)
    have nN := setRow_heap _ _ _ (nil15) _ _ (heap_alloc_new w5 (.cells nil15 149))
    change Code.wp _ _ _ _ ((w5.alloc (.cells nil15 149)).setRow w5.heap.size (nil15))
    generalize (w5.alloc (.cells nil15 149)).setRow w5.heap.size (nil15) = Y at *
    have n8 := (gN.block _ (heap_lt n7) (by nofun)).trans n7
    have s8 := (gN.block _ (heap_lt hS5) (by nofun)).trans hS5
    have k3 := (cell_of_row _ _ 3 _ _ _ s8).trans (show _ = some (Value.int .i64 2) from rfl)
    have k4 := (cell_of_row _ _ 4 _ _ _ s8).trans (show _ = some (Value.int .i64 c) from rfl)
    have GY := both (grown_new GS g5 (by omega)) gN
    clear n6 n7 hS5 s8 g5 gN GS hS
    go_wp2_with fail
    refine wp_region_held_drew (S := fun w9 => w9.cell? ⟨w4.heap.size, 4, none⟩ = some (.int .i64 c)) (by kernel_rfl) k4 (fun hHeld => ?_)
    refine held_take 0 73 (.agg (rowV 0 0 ⟨#[]⟩ (.slice none 0 0))) rfl rfl (by kernel_rfl) (by kernel_rfl) (by kernel_rfl) (fun _ _ _ h => h) (Or.inl ⟨by rfl, fun w9 hSw => ?y0⟩) (by assumption) ?_
    case y0 =>
      have hSw : w9.cell? ⟨w4.heap.size, 4, none⟩ = some (.int .i64 c) := hSw
      go_simp
      rfl
    simp only [Act.put, List.setIfInBounds_toArray, List.set_cons_zero, List.set_cons_succ]
    refine held_take 1 74 (.pointer (some ⟨w4.heap.size, 0, none⟩)) rfl rfl (by kernel_rfl) (by kernel_rfl) (by kernel_rfl) (fun _ _ _ h => h) (Or.inl ⟨by rfl, fun w9 hSw => ?y1⟩) (by assumption) ?_
    case y1 =>
      have hSw : w9.cell? ⟨w4.heap.size, 4, none⟩ = some (.int .i64 c) := hSw
      go_simp
    simp only [Act.put, List.setIfInBounds_toArray, List.set_cons_zero, List.set_cons_succ]
    refine held_take 2 75 (.pointer (some ⟨w4.heap.size, 0, none⟩)) rfl rfl (by kernel_rfl) (by kernel_rfl) (by kernel_rfl) (fun _ _ _ h => h) (Or.inl ⟨by rfl, fun w9 hSw => ?y2⟩) (by assumption) ?_
    case y2 =>
      have hSw : w9.cell? ⟨w4.heap.size, 4, none⟩ = some (.int .i64 c) := hSw
      go_simp
    simp only [Act.put, List.setIfInBounds_toArray, List.set_cons_zero, List.set_cons_succ]
    refine held_take 3 76 (.pointer (some ⟨w4.heap.size, 4, none⟩)) rfl rfl (by kernel_rfl) (by kernel_rfl) (by kernel_rfl) (fun _ _ _ h => h) (Or.inl ⟨by rfl, fun w9 hSw => ?y3⟩) (by assumption) ?_
    case y3 =>
      have hSw : w9.cell? ⟨w4.heap.size, 4, none⟩ = some (.int .i64 c) := hSw
      go_simp
    simp only [Act.put, List.setIfInBounds_toArray, List.set_cons_zero, List.set_cons_succ]
    refine held_take 4 77 (.int .i64 c) rfl rfl (by kernel_rfl) (by kernel_rfl) (by kernel_rfl) (fun _ _ _ h => h) (Or.inl ⟨by rfl, fun w9 hSw => ?y4⟩) (by assumption) ?_
    case y4 =>
      have hSw : w9.cell? ⟨w4.heap.size, 4, none⟩ = some (.int .i64 c) := hSw
      go_simp
    simp only [Act.put, List.setIfInBounds_toArray, List.set_cons_zero, List.set_cons_succ]
    have n9 : Y.drew.heap[w.heap.size]? = some (.cells (rowV 0 0 ⟨#[]⟩ (.slice none 0 0)) 48 (0, 0)) := n8
    have k9 : (Y.drew.setRow w.heap.size (rowV 0 0 ⟨#[]⟩ (.slice none 0 0))).cell? ⟨w4.heap.size, 4, none⟩ = some (.int .i64 c) := (cell_setRow_other _ _ _ _ (show w4.heap.size ≠ w.heap.size by omega)).trans k4
    refine held_store 5 (by kernel_rfl) (by rfl) (by rfl) (by rfl) 48 _ _ (by rfl) w.heap.size (rowV 0 0 ⟨#[]⟩ (.slice none 0 0)) (by rfl) (by rfl) 48 _ n9 infoV rfl (all_one _ rfl) k9 ?_
    refine held_take 6 5 (.int .i64 c) rfl rfl (by kernel_rfl) (by kernel_rfl) (by kernel_rfl) (fun _ _ _ h => h) (Or.inl ⟨by rfl, fun w9 hSw => ?y6⟩) k9 ?_
    case y6 =>
      have hSw : w9.cell? ⟨w4.heap.size, 4, none⟩ = some (.int .i64 c) := hSw
      go_simp
    simp only [Act.put, List.setIfInBounds_toArray, List.set_cons_zero, List.set_cons_succ]
    refine held_take 7 6 (.int .i64 0) rfl rfl (by kernel_rfl) (by kernel_rfl) (by kernel_rfl) (fun _ _ _ h => h) (Or.inl ⟨by rfl, fun w9 hSw => ?y7⟩) k9 ?_
    case y7 =>
      have hSw : w9.cell? ⟨w4.heap.size, 4, none⟩ = some (.int .i64 c) := hSw
      go_simp
    simp only [Act.put, List.setIfInBounds_toArray, List.set_cons_zero, List.set_cons_succ]
    refine wpAnyH_done (by kernel_rfl) ?_ _
    go_wp2_with fail
    have q9 := setRow_heap _ _ _ (rowV 0 0 ⟨#[]⟩ (.slice none 0 0)) _ _ n9
    exact bodyPost_ret (results_row_tmp2 (p := 4) (u := 5) (v := 6) rfl _ _ w.heap.size 48 _ (0, 0) _ rfl q9 Tryz.underlying48 infoV) rfl ⟨grown_setRow (both GY (grown_drew _)) (Nat.le_refl _) _, by rw [if_neg (by decide)]; rfl⟩
  | num m =>
    obtain ⟨rfl, g5⟩ := HA
    have n7 := (g5.block _ (heap_lt n6) (by nofun)).trans n6
    have s7 := (g5.block _ (heap_lt hS) (by nofun)).trans hS
    go_upto_region 20 with (refine wpList_store_row rfl 149 _ _ rfl w5.heap.size (row15 1 m ⟨#[]⟩ (.slice none 0 0)) rfl rfl 149 _ (heap_alloc_new w5 _) info15 rfl (all_one _ rfl) ?_)
    have gN := grown_setRow (grown_alloc w5 (.cells nil15 149)) (Nat.le_refl _) (row15 1 m ⟨#[]⟩ (.slice none 0 0))
    have nN := setRow_heap _ _ _ (row15 1 m ⟨#[]⟩ (.slice none 0 0)) _ _ (heap_alloc_new w5 (.cells nil15 149))
    change Code.wp _ _ _ _ ((w5.alloc (.cells nil15 149)).setRow w5.heap.size (row15 1 m ⟨#[]⟩ (.slice none 0 0)))
    generalize (w5.alloc (.cells nil15 149)).setRow w5.heap.size (row15 1 m ⟨#[]⟩ (.slice none 0 0)) = Y at *
    have n8 := (gN.block _ (heap_lt n7) (by nofun)).trans n7
    have s8 := (gN.block _ (heap_lt s7) (by nofun)).trans s7
    have k3 := (cell_of_row _ _ 3 _ _ _ s8).trans (show _ = some (Value.int .i64 0) from rfl)
    have GY := both (both GS g5) gN
    have zY := heap_lt n8
    have HO := observe15_flat 1 m 20000 400 ⟨#[]⟩ Y (by decide) (by decide) (by decide) (by decide) (by decide)
    clear n6 n7 hS s8 g5 gN GS s7
    go_upto_region 22 with fail
    go_upto_region 23 with (first
      | (refine wpList_load_row rfl 149 _ rfl w5.heap.size rfl 149 (row15 1 m ⟨#[]⟩ (.slice none 0 0)) (0, 0) _ nN Tryz.underlying149 rfl info15 ?_)
      | (go_at_call 94; refine HO.mono ?_; rintro e w6 ⟨rfl, g6⟩)
      | (refine wpList_store_row rfl 48 _ _ rfl w6.heap.size (rowV 1 m ⟨#[]⟩ (.slice none 0 0)) rfl rfl 48 _ (heap_alloc_new w6 _) infoV rfl (all_one _ rfl) ?_))
    have gM := grown_setRow (grown_alloc w6 (.cells (rowV 0 0 ⟨#[]⟩ (.slice none 0 0)) 48)) (Nat.le_refl _) (rowV 1 m ⟨#[]⟩ (.slice none 0 0))
    have nM := setRow_heap _ _ _ (rowV 1 m ⟨#[]⟩ (.slice none 0 0)) _ _ (heap_alloc_new w6 (.cells (rowV 0 0 ⟨#[]⟩ (.slice none 0 0)) 48))
    have n9 := (g6.block _ (heap_lt n8) (by nofun)).trans n8
    change Code.wp _ _ _ _ ((w6.alloc (.cells (rowV 0 0 ⟨#[]⟩ (.slice none 0 0)) 48)).setRow w6.heap.size (rowV 1 m ⟨#[]⟩ (.slice none 0 0)))
    generalize (w6.alloc (.cells (rowV 0 0 ⟨#[]⟩ (.slice none 0 0)) 48)).setRow w6.heap.size (rowV 1 m ⟨#[]⟩ (.slice none 0 0)) = U at *
    have nU := (gM.block _ (heap_lt n9) (by nofun)).trans n9
    go_wp2_with (first
      | (refine wpList_load_row rfl 48 _ rfl w6.heap.size rfl 48 (rowV 1 m ⟨#[]⟩ (.slice none 0 0)) (0, 0) _ nM Tryz.underlying48 rfl infoV ?_)
      | (refine wpList_store_row rfl 48 _ _ rfl w.heap.size (rowV 1 m ⟨#[]⟩ (.slice none 0 0)) rfl rfl 48 _ nU infoV rfl (all_one _ rfl) ?_))
    have q9 := setRow_heap _ _ _ (rowV 1 m ⟨#[]⟩ (.slice none 0 0)) _ _ nU
    refine bodyPost_ret (results_row_tmp2 (p := 4) (u := 5) (v := 6) rfl _ _ w.heap.size 48 _ (0, 0) _ rfl q9 Tryz.underlying48 infoV) rfl ⟨grown_setRow (both (both GY g6) gM) (Nat.le_refl _) _, ?_⟩
    rw [if_neg (by decide)]
    rfl
  | txt t =>
    obtain ⟨rfl, g5⟩ := HA
    have n7 := (g5.block _ (heap_lt n6) (by nofun)).trans n6
    have s7 := (g5.block _ (heap_lt hS) (by nofun)).trans hS
    go_upto_region 20 with (refine wpList_store_row rfl 149 _ _ rfl w5.heap.size (row15 2 0 t (.slice none 0 0)) rfl rfl 149 _ (heap_alloc_new w5 _) info15 rfl (all_one _ rfl) ?_)
    have gN := grown_setRow (grown_alloc w5 (.cells nil15 149)) (Nat.le_refl _) (row15 2 0 t (.slice none 0 0))
    have nN := setRow_heap _ _ _ (row15 2 0 t (.slice none 0 0)) _ _ (heap_alloc_new w5 (.cells nil15 149))
    change Code.wp _ _ _ _ ((w5.alloc (.cells nil15 149)).setRow w5.heap.size (row15 2 0 t (.slice none 0 0)))
    generalize (w5.alloc (.cells nil15 149)).setRow w5.heap.size (row15 2 0 t (.slice none 0 0)) = Y at *
    have n8 := (gN.block _ (heap_lt n7) (by nofun)).trans n7
    have s8 := (gN.block _ (heap_lt s7) (by nofun)).trans s7
    have k3 := (cell_of_row _ _ 3 _ _ _ s8).trans (show _ = some (Value.int .i64 0) from rfl)
    have GY := both (both GS g5) gN
    have zY := heap_lt n8
    have HO := observe15_flat 2 0 20000 400 t Y (by decide) (by decide) (by decide) (by decide) (by decide)
    clear n6 n7 hS s8 g5 gN GS s7
    go_upto_region 22 with fail
    go_upto_region 23 with (first
      | (refine wpList_load_row rfl 149 _ rfl w5.heap.size rfl 149 (row15 2 0 t (.slice none 0 0)) (0, 0) _ nN Tryz.underlying149 rfl info15 ?_)
      | (go_at_call 94; refine HO.mono ?_; rintro e w6 ⟨rfl, g6⟩)
      | (refine wpList_store_row rfl 48 _ _ rfl w6.heap.size (rowV 2 0 t (.slice none 0 0)) rfl rfl 48 _ (heap_alloc_new w6 _) infoV rfl (all_one _ rfl) ?_))
    have gM := grown_setRow (grown_alloc w6 (.cells (rowV 0 0 ⟨#[]⟩ (.slice none 0 0)) 48)) (Nat.le_refl _) (rowV 2 0 t (.slice none 0 0))
    have nM := setRow_heap _ _ _ (rowV 2 0 t (.slice none 0 0)) _ _ (heap_alloc_new w6 (.cells (rowV 0 0 ⟨#[]⟩ (.slice none 0 0)) 48))
    have n9 := (g6.block _ (heap_lt n8) (by nofun)).trans n8
    change Code.wp _ _ _ _ ((w6.alloc (.cells (rowV 0 0 ⟨#[]⟩ (.slice none 0 0)) 48)).setRow w6.heap.size (rowV 2 0 t (.slice none 0 0)))
    generalize (w6.alloc (.cells (rowV 0 0 ⟨#[]⟩ (.slice none 0 0)) 48)).setRow w6.heap.size (rowV 2 0 t (.slice none 0 0)) = U at *
    have nU := (gM.block _ (heap_lt n9) (by nofun)).trans n9
    go_wp2_with (first
      | (refine wpList_load_row rfl 48 _ rfl w6.heap.size rfl 48 (rowV 2 0 t (.slice none 0 0)) (0, 0) _ nM Tryz.underlying48 rfl infoV ?_)
      | (refine wpList_store_row rfl 48 _ _ rfl w.heap.size (rowV 2 0 t (.slice none 0 0)) rfl rfl 48 _ nU infoV rfl (all_one _ rfl) ?_))
    have q9 := setRow_heap _ _ _ (rowV 2 0 t (.slice none 0 0)) _ _ nU
    refine bodyPost_ret (results_row_tmp2 (p := 4) (u := 5) (v := 6) rfl _ _ w.heap.size 48 _ (0, 0) _ rfl q9 Tryz.underlying48 infoV) rfl ⟨grown_setRow (both (both GY g6) gM) (Nat.le_refl _) _, ?_⟩
    rw [if_neg (by decide)]
    rfl
  | bool b =>
    obtain ⟨q, r, rfl, hq1, hr1, g5, hq, hr⟩ := HA
    have n7 := (g5.block _ (heap_lt n6) (by nofun)).trans n6
    have s7 := (g5.block _ (heap_lt hS) (by nofun)).trans hS
    go_upto_region 20 with (refine wpList_store_row rfl 149 _ _ rfl w5.heap.size (row15 5 0 ⟨#[]⟩ (.slice (some ⟨q, 0, none⟩) 1 1)) rfl rfl 149 _ (heap_alloc_new w5 _) info15 rfl (all_one _ rfl) ?_)
    have gN := grown_setRow (grown_alloc w5 (.cells nil15 149)) (Nat.le_refl _) (row15 5 0 ⟨#[]⟩ (.slice (some ⟨q, 0, none⟩) 1 1))
    have nN := setRow_heap _ _ _ (row15 5 0 ⟨#[]⟩ (.slice (some ⟨q, 0, none⟩) 1 1)) _ _ (heap_alloc_new w5 (.cells nil15 149))
    change Code.wp _ _ _ _ ((w5.alloc (.cells nil15 149)).setRow w5.heap.size (row15 5 0 ⟨#[]⟩ (.slice (some ⟨q, 0, none⟩) 1 1)))
    generalize (w5.alloc (.cells nil15 149)).setRow w5.heap.size (row15 5 0 ⟨#[]⟩ (.slice (some ⟨q, 0, none⟩) 1 1)) = Y at *
    have n8 := (gN.block _ (heap_lt n7) (by nofun)).trans n7
    have s8 := (gN.block _ (heap_lt s7) (by nofun)).trans s7
    have k3 := (cell_of_row _ _ 3 _ _ _ s8).trans (show _ = some (Value.int .i64 0) from rfl)
    have GY := both (both GS g5) gN
    have zY := heap_lt n8
    have hq8 := (gN.block _ (heap_lt hq) (by nofun)).trans hq
    have hr8 := (gN.block _ (heap_lt hr) (by nofun)).trans hr
    have HO := observe_bool15 b q r Y hq8 hr8
    clear n6 n7 hS s8 g5 gN GS s7
    go_upto_region 22 with fail
    go_upto_region 23 with (first
      | (refine wpList_load_row rfl 149 _ rfl w5.heap.size rfl 149 (row15 5 0 ⟨#[]⟩ (.slice (some ⟨q, 0, none⟩) 1 1)) (0, 0) _ nN Tryz.underlying149 rfl info15 ?_)
      | (go_at_call 94; refine HO.mono ?_; rintro e w6 ⟨p, c, rfl, g6, hcp, hpl⟩)
      | (refine wpList_store_row rfl 48 _ _ rfl w6.heap.size (rowV 5 0 ⟨#[]⟩ (.slice (some ⟨p, 0, none⟩) 1 c)) rfl rfl 48 _ (heap_alloc_new w6 _) infoV rfl (all_one _ rfl) ?_))
    have gM := grown_setRow (grown_alloc w6 (.cells (rowV 0 0 ⟨#[]⟩ (.slice none 0 0)) 48)) (Nat.le_refl _) (rowV 5 0 ⟨#[]⟩ (.slice (some ⟨p, 0, none⟩) 1 c))
    have nM := setRow_heap _ _ _ (rowV 5 0 ⟨#[]⟩ (.slice (some ⟨p, 0, none⟩) 1 c)) _ _ (heap_alloc_new w6 (.cells (rowV 0 0 ⟨#[]⟩ (.slice none 0 0)) 48))
    have n9 := (g6.block _ (heap_lt n8) (by nofun)).trans n8
    change Code.wp _ _ _ _ ((w6.alloc (.cells (rowV 0 0 ⟨#[]⟩ (.slice none 0 0)) 48)).setRow w6.heap.size (rowV 5 0 ⟨#[]⟩ (.slice (some ⟨p, 0, none⟩) 1 c)))
    generalize (w6.alloc (.cells (rowV 0 0 ⟨#[]⟩ (.slice none 0 0)) 48)).setRow w6.heap.size (rowV 5 0 ⟨#[]⟩ (.slice (some ⟨p, 0, none⟩) 1 c)) = U at *
    have nU := (gM.block _ (heap_lt n9) (by nofun)).trans n9
    go_wp2_with (first
      | (refine wpList_load_row rfl 48 _ rfl w6.heap.size rfl 48 (rowV 5 0 ⟨#[]⟩ (.slice (some ⟨p, 0, none⟩) 1 c)) (0, 0) _ nM Tryz.underlying48 rfl infoV ?_)
      | (refine wpList_store_row rfl 48 _ _ rfl w.heap.size (rowV 5 0 ⟨#[]⟩ (.slice (some ⟨p, 0, none⟩) 1 c)) rfl rfl 48 _ nU infoV rfl (all_one _ rfl) ?_))
    have q9 := setRow_heap _ _ _ (rowV 5 0 ⟨#[]⟩ (.slice (some ⟨p, 0, none⟩) 1 c)) _ _ nU
    refine bodyPost_ret (results_row_tmp2 (p := 4) (u := 5) (v := 6) rfl _ _ w.heap.size 48 _ (0, 0) _ rfl q9 Tryz.underlying48 infoV) rfl ⟨grown_setRow (both (both GY g6) gM) (Nat.le_refl _) _, ?_⟩
    rw [if_neg (by decide)]
    refine ⟨p, c, rfl, ?_⟩
    have hp := World.block_lt_of_cell? w6 _ hcp
    have hcp2 := cell_grown hcp gM
    rw [cell_setRow_other _ _ _ _ (show p ≠ w.heap.size from fun e => ?_)]
    · exact hcp2
    · omega
end Go.Proofs.YtidolpcbbbakmaaGreat
