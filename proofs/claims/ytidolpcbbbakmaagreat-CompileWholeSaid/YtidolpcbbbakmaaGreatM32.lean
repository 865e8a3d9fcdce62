/- Prim of the reference of layer 15: one and two operands that fit. -/
import Derived.Test.YtidolpcbbbakmaaGreatM31
namespace Go.Proofs.YtidolpcbbbakmaaGreat
open Go Go.RowKit
theorem range_grown {w w' : World} {b o : Nat} {cs : List Value} (h : w.rangeAt b o cs) (g : w.grownBy w' none) : w'.rangeAt b o cs := fun j v hv => by
  have h1 := h j v hv
  have h2 := World.block_lt_of_cell? w _ h1
  unfold World.cell? at h1 ⊢
  rw [g.block _ h2 (by nofun)]
  exact h1
def listV (op n : Int) (s : ByteArray) : List Value := [.int .i64 op, .int .i64 n, .string s, .slice none 0 0, .slice none 0 0]
/-- The answer of Prim. -/
def PAns (ok : Bool) (r : R15) (w : World) (e : Ending) (w' : World) : Prop :=
  w.grownBy w' none ∧ if ok = false then e = .returned (.tuple #[.agg (rowV 0 0 ⟨#[]⟩ (.slice none 0 0)), .int .i64 0, .int .i64 1]) else
    match r with
    | .fail c => e = .returned (.tuple #[.agg (rowV 0 0 ⟨#[]⟩ (.slice none 0 0)), .int .i64 c, .int .i64 0])
    | .num n => e = .returned (.tuple #[.agg (rowV 1 n ⟨#[]⟩ (.slice none 0 0)), .int .i64 0, .int .i64 0])
    | .txt s => e = .returned (.tuple #[.agg (rowV 2 0 s (.slice none 0 0)), .int .i64 0, .int .i64 0])
    | .bool b => ∃ q c, e = .returned (.tuple #[.agg (rowV 5 0 ⟨#[]⟩ (.slice (some ⟨q, 0, none⟩) 1 c)), .int .i64 0, .int .i64 0]) ∧ w'.cell? ⟨q, 2, none⟩ = some (.string (if b then ⟨#[84, 114, 117, 101]⟩ else ⟨#[70, 97, 108, 115, 101]⟩))
theorem nums_of {op n : Int} {s : ByteArray} (ho : op = 1 ∨ op = 2) (h : flatOk op n s = true) : (-4503599627370496 ≤ n ∧ n ≤ 4503599627370496) ∧ s.size ≤ 16384 := by
  unfold flatOk at h
  rcases ho with rfl | rfl
  · unfold numOk at h
    rw [if_pos rfl, Bool.and_eq_true, Bool.and_eq_true, decide_eq_true_iff, decide_eq_true_iff] at h
    refine ⟨h.1, ?_⟩
    have h2 : s.toList = [] := List.isEmpty_iff.1 h.2
    have : s.toList.length = 0 := by rw [h2]; rfl
    rw [Go.ByteArray.toList_eq] at this
    have hs : s.size = s.data.toList.length := by rw [Array.length_toList]; rfl
    omega
  · unfold txtOk at h
    rw [if_neg (by decide), Bool.and_eq_true, decide_eq_true_iff, decide_eq_true_iff] at h
    omega
theorem info_val15 : (Tryz.prog.info? 149).map (fun i => (i.zero, i.size, i.bytes)) = some (some (.agg nil15), 25, 424) := by kernel_rfl
theorem results_cell_two {fn : Func} {p u v : Tmp} {ty : TypeId} (h : fn.results = #[.cell p ty, .tmp u, .tmp v]) (tmps : Array Value) (P : Program) (w : World) :
    (results fn tmps).run P w =
      ((asAddr (tmps.getD p undef)).run P w).andThen fun a w₁ => ((loadVar ty a).run P w₁).andThen fun x w₂ => .ok (.tuple #[x, tmps.getD u undef, tmps.getD v undef]) w₂ := by
  simp only [results, h]
  simp [Sem.run_bind, Result.andThen]
theorem results_row_tmp2 {fn : Func} {p u v : Tmp} {ty : TypeId} {P : Program} (h : fn.results = #[.cell p ty, .tmp u, .tmp v]) (tmps : Array Value) (w : World) (g : Nat) (t : TypeId) (cs : Array Value) (fr : Nat × Nat) (fs : Array Field)
    (hp : tmps.getD p undef = .pointer (some ⟨g, 0, none⟩)) (hg : w.heap[g]? = some (.cells cs t fr))
    (hu : P.underlying ty = some (.struct fs)) (hi : (P.info? ty).map (·.size) = some cs.size) :
    (results fn tmps).run P w = .ok (.tuple #[.agg cs, tmps.getD u undef, tmps.getD v undef]) w := by
  have hp' : tmps[p]?.getD undef = .pointer (some ⟨g, 0, none⟩) := by simpa using hp
  rw [results_cell_two h]
  simp [hp', asAddr, run_loadVar_row w g t ty cs fr (.struct fs) hg hu rfl hi, Result.andThen]
theorem cell_grown {w w' : World} {a : Addr} {v : Value} (h : w.cell? a = some v) (g : w.grownBy w' none) : w'.cell? a = some v := by
  have h2 := World.block_lt_of_cell? w _ h
  unfold World.cell? at h ⊢
  rw [g.block _ h2 (by nofun)]
  exact h
theorem observe_bool15 (b : Bool) (q r : Nat) (w : World) (hq : w.heap[q]? = some (.cells (row15 4 0 (if b then ⟨#[84, 114, 117, 101]⟩ else ⟨#[70, 97, 108, 115, 101]⟩) (.slice (some ⟨r, 0, none⟩) 1 1)) 149 (0, 0)))
    (hr : w.heap[r]? = some (.cells (row15 3 0 ⟨#[]⟩ (.slice none 0 0)) 149 (0, 0))) :
    Calls Tryz.prog 94 #[.agg (row15 5 0 ⟨#[]⟩ (.slice (some ⟨q, 0, none⟩) 1 1)), .int .i64 20000, .int .i64 400] w fun e w' => ∃ p c, e = .returned (.tuple #[.agg (rowV 5 0 ⟨#[]⟩ (.slice (some ⟨p, 0, none⟩) 1 c)), .int .i64 19997]) ∧ w.grownBy w' none ∧ w'.cell? ⟨p, 2, none⟩ = some (.string (if b then ⟨#[84, 114, 117, 101]⟩ else ⟨#[70, 97, 108, 115, 101]⟩)) ∧ w.heap.size ≤ p := by
  refine observe15_one 5 0 20000 400 19997 4 0 ⟨#[]⟩ _ (.slice none 0 0) q _ w (by decide) (by decide) (by decide) (by decide) (by decide) hq rfl (by decide) ?_
  intro wx gx
  refine (observe15_one 4 0 19999 399 19997 3 0 _ ⟨#[]⟩ (.slice none 0 0) r _ wx (by decide) (by decide) (by decide) (by decide) (by decide) ((gx.block _ (heap_lt hr) (by nofun)).trans hr) rfl (by decide) ?_).mono ?_
  · intro wy gy
    refine (observe15_flat 3 0 19998 398 ⟨#[]⟩ wy (by decide) (by decide) (by decide) (by decide) (by decide)).mono ?_
    rintro e w' ⟨rfl, g⟩
    exact ⟨⟨_, _, _, rfl⟩, g⟩
  · rintro e w' ⟨p, c, rfl, g, _⟩
    exact ⟨⟨_, _, _, rfl⟩, g⟩
set_option maxRecDepth 100000 in
set_option maxHeartbeats 4000000 in
theorem Prim15_one (rb cp : Nat) (n oa na : Int) (sa sh : ByteArray) (w : World) (ha : w.rangeAt rb 0 (listV oa na sa)) (hc : 1 ≤ cp) (hn1 : 1 ≤ n) (hn2 : n ≤ 13) (hf : oa = wantP n) (har : 1 = arityP n)
    (HSh : -4503599627370496 ≤ na → na ≤ 4503599627370496 → Hid (∀ wx, Calls Tryz.prog 105 #[.int .i64 na] wx fun e w' => e = .returned (.string sh) ∧ wx.grownBy w' none)) :
    Calls Tryz.prog 81 #[.int .i64 n, .slice (some ⟨rb, 0, none⟩) 1 cp] w (PAns (flatOk oa na sa) (primR n na na sa sa sh) w) := by
  have ho : oa = 1 ∨ oa = 2 := by
    unfold wantP at hf
    split at hf <;> omega
  have HV : ∀ wx, Calls Tryz.prog 91 #[.agg (listV oa na sa).toArray] wx fun e w' => e = .returned (.bool (flatOk oa na sa)) ∧ wx.grownBy w' none := fun wx => valid14_flat oa na sa wx ho
  have HB : ∀ wx, Calls Tryz.prog 92 #[.agg (listV oa na sa).toArray] wx fun e w' => e = .returned (.tuple #[.agg (row15 oa na sa (.slice none 0 0)), .bool true]) ∧ wx.grownBy w' none := by
    intro wx
    rcases ho with rfl | rfl
    · exact back15_1 na sa wx
    · exact back15_2 na sa wx
  have HN := fun h => nums_of (s := sa) (n := na) ho h
  have hb0 : rb < w.heap.size := World.block_lt_of_cell? w _ (ha 0 _ rfl)
  generalize flatOk oa na sa = va at *
  have Hf := Lib.hid hf
  have Har := Lib.hid har
  clear hf har
  have g0 := grown_alloc w (.cells (rowV 0 0 ⟨#[]⟩ (.slice none 0 0)) 48)
  have n0 := heap_alloc_new w (.cells (rowV 0 0 ⟨#[]⟩ (.slice none 0 0)) 48)
  have HF : ∀ g cap wx, wx.rangeAt g 0 (flat15 oa na sa) → Calls Tryz.prog 80 #[.int .i64 n, .slice (some ⟨g, 0, none⟩) 1 cap] wx fun e w' => e = .returned (.bool true) ∧ wx = w' := by
    intro g cap wx hr
    refine (fit15_one g cap n oa wx (hr 0 _ rfl)).mono ?_
    rintro e w' ⟨rfl, rfl⟩
    refine ⟨?_, rfl⟩
    rw [← Har.out, ← Hf.out]
    simp
  obtain ⟨ii0, hii, hiz0, hiz1, hiz2⟩ := parts_info info_val15
  go_enter Tryz.func81, Tryz.ntmps81
  go_upto_region 1 with fail
  change Code.wp _ _ _ _ (w.alloc (.cells (rowV 0 0 ⟨#[]⟩ (.slice none 0 0)) 48))
  generalize w.alloc (.cells (rowV 0 0 ⟨#[]⟩ (.slice none 0 0)) 48) = W at *
  have ra := range_grown ha g0
  go_wp2_with fail
  refine wp_loop_rounds 2 ?_
  rw [rounds_succ]
  cases va
  · go_wp2_with (first
      | (refine wpList_load_mid rfl 48 _ rfl rb 0 rfl (listV oa na sa) _ ra Tryz.underlying48 rfl infoV ?_)
      | (go_at_call 91; refine (HV _).mono ?_; rintro e w1 ⟨rfl, g1⟩; have n1 := (g1.block _ (heap_lt n0) (by nofun)).trans n0)
      | (refine wpList_store_row rfl 48 _ _ rfl w.heap.size (rowV 0 0 ⟨#[]⟩ (.slice none 0 0)) rfl rfl 48 _ n1 infoV rfl (all_one _ rfl) ?_))
    have q1 := setRow_heap _ _ _ (rowV 0 0 ⟨#[]⟩ (.slice none 0 0)) _ _ n1
    exact bodyPost_ret (results_row_tmp2 (p := 4) (u := 5) (v := 6) rfl _ _ w.heap.size 48 _ (0, 0) _ rfl q1 Tryz.underlying48 infoV) rfl ⟨grown_setRow (both g0 g1) (Nat.le_refl _) _, by rw [if_pos rfl]; rfl⟩
  · obtain ⟨hra, hsz⟩ := HN rfl
    have hSh := HSh hra.1 hra.2
    clear HN HSh
    go_wp2_with (first
      | (refine wpList_load_mid rfl 48 _ rfl rb 0 rfl (listV oa na sa) _ ra Tryz.underlying48 rfl infoV ?_)
      | (go_at_call 91; refine (HV _).mono ?_; rintro e w1 ⟨rfl, g1⟩))
    have n1 := (g1.block _ (heap_lt n0) (by nofun)).trans n0
    have r1 := range_grown ra g1
    have G1 := both g0 g1
    clear ra n0 g1 g0 HV
    rw [rounds_succ]
    go_wp2_with fail
    refine wp_loop_rounds 2 ?_
    rw [rounds_succ]
    go_upto_region 13 with (first
      | (refine wpList_load_mid rfl 48 _ rfl rb 0 rfl (listV oa na sa) _ r1 Tryz.underlying48 rfl infoV ?_)
      | (go_at_call 92; refine (HB _).mono ?_; rintro e w2 ⟨rfl, g2⟩)
      | (refine wpList_store_row rfl 149 _ _ rfl w2.heap.size (row15 oa na sa (.slice none 0 0)) rfl rfl 149 _ (heap_alloc_new w2 _) info15 rfl (all_one _ rfl) ?_))
    have n3 := setRow_heap _ _ _ (row15 oa na sa (.slice none 0 0)) _ _ (heap_alloc_new w2 (.cells nil15 149))
    have g3 := grown_setRow (grown_alloc w2 (.cells nil15 149)) (Nat.le_refl _) (row15 oa na sa (.slice none 0 0))
    have G2 := both G1 g2
    have n2 := (g2.block _ (heap_lt n1) (by nofun)).trans n1
    change Code.wp _ _ _ _ ((w2.alloc (.cells nil15 149)).setRow w2.heap.size (row15 oa na sa (.slice none 0 0)))
    generalize (w2.alloc (.cells nil15 149)).setRow w2.heap.size (row15 oa na sa (.slice none 0 0)) = V at *
    have G3 := both G2 g3
    have n4 := (g3.block _ (heap_lt n2) (by nofun)).trans n2
    clear n1 n2 g2 g3 G1 G2 r1 HB
    go_upto_region 15 with fail
    go_wp2_with (first
      | (refine wpList_load_row rfl 149 _ rfl w2.heap.size rfl 149 (row15 oa na sa (.slice none 0 0)) (0, 0) _ n3 Tryz.underlying149 rfl info15 ?_)
      | (refine one15 rfl _ rfl _ rfl rfl ?_)
      | (at_builtin; refine wpList_append_lies _ rfl _ _ 138 rfl w.heap.size 149 ii0 (.agg nil15) 25 424 Tryz.underlying138 hii hiz0 hiz1 hiz2 rfl (by decide) (.slice none 0 0) 0 [] rfl ⟨rfl, .inl ⟨rfl, rfl⟩⟩ ⟨V.heap.size, 0, none⟩ 1 1 (flat15 oa na sa) rfl rfl ?c1 ?c2 (by decide) ?c3 ?c4 ?c5 _ rfl ?_))
    case c1 => exact World.news_of_block (cs := row15 oa na sa (.slice none 0 0)) (new_heap V _)
    case c2 => exact List.all_eq_true.1 (show (flat15 oa na sa).all (·.oneCell') = true from rfl)
    case c3 => unfold maxLen; omega
    case c4 => omega
    case c5 => simp; have := G3.size; omega
    intro g cap w4 hown hgrow hat hlt4
    have g4 := both (grown_alloc V _) hgrow
    have G4 := both G3 g4
    have n5 := (g4.block _ (heap_lt n4) (by nofun)).trans n4
    have rf : w4.rangeAt g 0 (flat15 oa na sa) := fun j u hu => by
      have := hown.cells rfl j u hu
      rw [Addr.add_mid] at this
      exact this
    have hcap : 1 ≤ cap := by
      obtain ⟨_, h | ⟨g', cap', cur, hv, _, _, h1, _⟩⟩ := hown
      · cases h.1
      · cases hv; omega
    clear n3 n4 g4 G3 hown hgrow hat
    go_wp2_with fail
    rw [rounds_succ]
    go_wp2_with (first
      | (go_at_call 80; refine (HF _ _ _ rf).mono ?_; rintro e w' ⟨rfl, rfl⟩))
    have hS := new_heap w4 (.cells (st15 0 0) 163)
    have gS := grown_alloc w4 (.cells (st15 0 0) 163)
    have rg := range_grown rf gS
    have HP := prim15_any w4.heap.size g cap 0 n oa na oa na sa sa sh _ hS rg (by rw [Nat.zero_mul]; exact rg) (Nat.lt_of_lt_of_le hlt4 gS.size) hcap (Or.inl rfl) (by omega) hra hra ⟨hsz, hsz⟩ hSh
    have n6 := (gS.block _ (heap_lt n5) (by nofun)).trans n5
    have GS := both G4 gS
    have e4 : w4.heap.size < (w4.alloc (.cells (st15 0 0) 163)).heap.size := heap_lt hS
    have zw := G4.size
    have z5 := heap_lt n5
    clear n5 G4 gS rf rg HF hSh
    generalize primR n na na sa sa sh = r at *
    change Calls _ _ _ (w4.alloc (.cells (st15 0 0) 163)) _
    generalize w4.alloc (.cells (st15 0 0) 163) = X at *
    refine HP.mono ?_
    intro e w5 HA
    cases r with
    | fail c =>
      obtain ⟨rfl, hS5, g5⟩ := HA
      have n7 := (g5.block _ (heap_lt n6) (fun e => by have := Option.some.inj e; omega)).trans n6
      go_upto_region 20 with (refine wpList_store_row rfl 149 _ _ rfl w5.heap.size (nil15) rfl rfl 149 _ (heap_alloc_new w5 _) info15 rfl (all_one _ rfl) ?_)
      have gN := grown_setRow (grown_alloc w5 (.cells nil15 149)) (Nat.le_refl _) (nil15)
      have nN := setRow_heap _ _ _ (nil15) _ _ (heap_alloc_new w5 (.cells nil15 149))
      change Code.wp _ _ _ _ ((w5.alloc (.cells nil15 149)).setRow w5.heap.size (nil15))
      generalize (w5.alloc (.cells nil15 149)).setRow w5.heap.size (nil15) = Y at *
      have n8 := (gN.block _ (heap_lt n7) (by nofun)).trans n7
      have s8 := (gN.block _ (heap_lt hS5) (by nofun)).trans hS5
      have k3 := (cell_of_row _ _ 3 _ _ _ s8).trans (show _ = some (Value.int .i64 2) from rfl)
      have k4 := (cell_of_row _ _ 4 _ _ _ s8).trans (show _ = some (Value.int .i64 c) from rfl)
      have GY := both (grown_new GS g5 (by omega)) gN
      clear n6 n7 hS5 s8 g5 gN GS hS
      go_wp2_with fail
      refine wp_region_held_drew (S := fun w9 => w9.cell? ⟨w4.heap.size, 4, none⟩ = some (.int .i64 c)) (by kernel_rfl) k4 (fun hHeld => ?_)
      refine held_take 0 73 (.agg (rowV 0 0 ⟨#[]⟩ (.slice none 0 0))) rfl rfl (by kernel_rfl) (by kernel_rfl) (by kernel_rfl) (fun _ _ _ h => h) (Or.inl ⟨by rfl, fun w9 hSw => ?y0⟩) (by assumption) ?_
      case y0 =>
        have hSw : w9.cell? ⟨w4.heap.size, 4, none⟩ = some (.int .i64 c) := hSw
        go_simp
        rfl
      simp only [Act.put, List.setIfInBounds_toArray, List.set_cons_zero, List.set_cons_succ]
      refine held_take 1 74 (.pointer (some ⟨w4.heap.size, 0, none⟩)) rfl rfl (by kernel_rfl) (by kernel_rfl) (by kernel_rfl) (fun _ _ _ h => h) (Or.inl ⟨by rfl, fun w9 hSw => ?y1⟩) (by assumption) ?_
      case y1 =>
        have hSw : w9.cell? ⟨w4.heap.size, 4, none⟩ = some (.int .i64 c) := hSw
        go_simp
      simp only [Act.put, List.setIfInBounds_toArray, List.set_cons_zero, List.set_cons_succ]
      refine held_take 2 75 (.pointer (some ⟨w4.heap.size, 0, none⟩)) rfl rfl (by kernel_rfl) (by kernel_rfl) (by kernel_rfl) (fun _ _ _ h => h) (Or.inl ⟨by rfl, fun w9 hSw => ?y2⟩) (by assumption) ?_
      case y2 =>
        have hSw : w9.cell? ⟨w4.heap.size, 4, none⟩ = some (.int .i64 c) := hSw
        go_simp
      simp only [Act.put, List.setIfInBounds_toArray, List.set_cons_zero, List.set_cons_succ]
      refine held_take 3 76 (.pointer (some ⟨w4.heap.size, 4, none⟩)) rfl rfl (by kernel_rfl) (by kernel_rfl) (by kernel_rfl) (fun _ _ _ h => h) (Or.inl ⟨by rfl, fun w9 hSw => ?y3⟩) (by assumption) ?_
      case y3 =>
        have hSw : w9.cell? ⟨w4.heap.size, 4, none⟩ = some (.int .i64 c) := hSw
        go_simp
      simp only [Act.put, List.setIfInBounds_toArray, List.set_cons_zero, List.set_cons_succ]
      refine held_take 4 77 (.int .i64 c) rfl rfl (by kernel_rfl) (by kernel_rfl) (by kernel_rfl) (fun _ _ _ h => h) (Or.inl ⟨by rfl, fun w9 hSw => ?y4⟩) (by assumption) ?_
      case y4 =>
        have hSw : w9.cell? ⟨w4.heap.size, 4, none⟩ = some (.int .i64 c) := hSw
        go_simp
      simp only [Act.put, List.setIfInBounds_toArray, List.set_cons_zero, List.set_cons_succ]
      have n9 : Y.drew.heap[w.heap.size]? = some (.cells (rowV 0 0 ⟨#[]⟩ (.slice none 0 0)) 48 (0, 0)) := n8
      have k9 : (Y.drew.setRow w.heap.size (rowV 0 0 ⟨#[]⟩ (.slice none 0 0))).cell? ⟨w4.heap.size, 4, none⟩ = some (.int .i64 c) := (cell_setRow_other _ _ _ _ (show w4.heap.size ≠ w.heap.size by omega)).trans k4
      refine held_store 5 (by kernel_rfl) (by rfl) (by rfl) (by rfl) 48 _ _ (by rfl) w.heap.size (rowV 0 0 ⟨#[]⟩ (.slice none 0 0)) (by rfl) (by rfl) 48 _ n9 infoV rfl (all_one _ rfl) k9 ?_
      refine held_take 6 5 (.int .i64 c) rfl rfl (by kernel_rfl) (by kernel_rfl) (by kernel_rfl) (fun _ _ _ h => h) (Or.inl ⟨by rfl, fun w9 hSw => ?y6⟩) k9 ?_
      case y6 =>
        have hSw : w9.cell? ⟨w4.heap.size, 4, none⟩ = some (.int .i64 c) := hSw
        go_simp
      simp only [Act.put, List.setIfInBounds_toArray, List.set_cons_zero, List.set_cons_succ]
      refine held_take 7 6 (.int .i64 0) rfl rfl (by kernel_rfl) (by kernel_rfl) (by kernel_rfl) (fun _ _ _ h => h) (Or.inl ⟨by rfl, fun w9 hSw => ?y7⟩) k9 ?_
      case y7 =>
        have hSw : w9.cell? ⟨w4.heap.size, 4, none⟩ = some (.int .i64 c) := hSw
        go_simp
      simp only [Act.put, List.setIfInBounds_toArray, List.set_cons_zero, List.set_cons_succ]
      refine wpAnyH_done (by kernel_rfl) ?_ _
      go_wp2_with fail
      have q9 := setRow_heap _ _ _ (rowV 0 0 ⟨#[]⟩ (.slice none 0 0)) _ _ n9
      exact bodyPost_ret (results_row_tmp2 (p := 4) (u := 5) (v := 6) rfl _ _ w.heap.size 48 _ (0, 0) _ rfl q9 Tryz.underlying48 infoV) rfl ⟨grown_setRow (both GY (grown_drew _)) (Nat.le_refl _) _, by rw [if_neg (by decide)]; rfl⟩
    | num m =>
      obtain ⟨rfl, g5⟩ := HA
      have n7 := (g5.block _ (heap_lt n6) (by nofun)).trans n6
      have s7 := (g5.block _ (heap_lt hS) (by nofun)).trans hS
      go_upto_region 20 with (refine wpList_store_row rfl 149 _ _ rfl w5.heap.size (row15 1 m ⟨#[]⟩ (.slice none 0 0)) rfl rfl 149 _ (heap_alloc_new w5 _) info15 rfl (all_one _ rfl) ?_)
      have gN := grown_setRow (grown_alloc w5 (.cells nil15 149)) (Nat.le_refl _) (row15 1 m ⟨#[]⟩ (.slice none 0 0))
      have nN := setRow_heap _ _ _ (row15 1 m ⟨#[]⟩ (.slice none 0 0)) _ _ (heap_alloc_new w5 (.cells nil15 149))
      change Code.wp _ _ _ _ ((w5.alloc (.cells nil15 149)).setRow w5.heap.size (row15 1 m ⟨#[]⟩ (.slice none 0 0)))
      generalize (w5.alloc (.cells nil15 149)).setRow w5.heap.size (row15 1 m ⟨#[]⟩ (.slice none 0 0)) = Y at *
      have n8 := (gN.block _ (heap_lt n7) (by nofun)).trans n7
      have s8 := (gN.block _ (heap_lt s7) (by nofun)).trans s7
      have k3 := (cell_of_row _ _ 3 _ _ _ s8).trans (show _ = some (Value.int .i64 0) from rfl)
      have GY := both (both GS g5) gN
      have zY := heap_lt n8
      have HO := observe15_flat 1 m 20000 400 ⟨#[]⟩ Y (by decide) (by decide) (by decide) (by decide) (by decide)
      clear n6 n7 hS s8 g5 gN GS s7
      go_upto_region 22 with fail
      go_upto_region 23 with (first
        | (refine wpList_load_row rfl 149 _ rfl w5.heap.size rfl 149 (row15 1 m ⟨#[]⟩ (.slice none 0 0)) (0, 0) _ nN Tryz.underlying149 rfl info15 ?_)
        | (go_at_call 94; refine HO.mono ?_; rintro e w6 ⟨rfl, g6⟩)
        | (refine wpList_store_row rfl 48 _ _ rfl w6.heap.size (rowV 1 m ⟨#[]⟩ (.slice none 0 0)) rfl rfl 48 _ (heap_alloc_new w6 _) infoV rfl (all_one _ rfl) ?_))
      have gM := grown_setRow (grown_alloc w6 (.cells (rowV 0 0 ⟨#[]⟩ (.slice none 0 0)) 48)) (Nat.le_refl _) (rowV 1 m ⟨#[]⟩ (.slice none 0 0))
      have nM := setRow_heap _ _ _ (rowV 1 m ⟨#[]⟩ (.slice none 0 0)) _ _ (heap_alloc_new w6 (.cells (rowV 0 0 ⟨#[]⟩ (.slice none 0 0)) 48))
      have n9 := (g6.block _ (heap_lt n8) (by nofun)).trans n8
      change Code.wp _ _ _ _ ((w6.alloc (.cells (rowV 0 0 ⟨#[]⟩ (.slice none 0 0)) 48)).setRow w6.heap.size (rowV 1 m ⟨#[]⟩ (.slice none 0 0)))
      generalize (w6.alloc (.cells (rowV 0 0 ⟨#[]⟩ (.slice none 0 0)) 48)).setRow w6.heap.size (rowV 1 m ⟨#[]⟩ (.slice none 0 0)) = U at *
      have nU := (gM.block _ (heap_lt n9) (by nofun)).trans n9
      go_wp2_with (first
        | (refine wpList_load_row rfl 48 _ rfl w6.heap.size rfl 48 (rowV 1 m ⟨#[]⟩ (.slice none 0 0)) (0, 0) _ nM Tryz.underlying48 rfl infoV ?_)
        | (refine wpList_store_row rfl 48 _ _ rfl w.heap.size (rowV 1 m ⟨#[]⟩ (.slice none 0 0)) rfl rfl 48 _ nU infoV rfl (all_one _ rfl) ?_))
      have q9 := setRow_heap _ _ _ (rowV 1 m ⟨#[]⟩ (.slice none 0 0)) _ _ nU
      refine bodyPost_ret (results_row_tmp2 (p := 4) (u := 5) (v := 6) rfl _ _ w.heap.size 48 _ (0, 0) _ rfl q9 Tryz.underlying48 infoV) rfl ⟨grown_setRow (both (both GY g6) gM) (Nat.le_refl _) _, ?_⟩
      rw [if_neg (by decide)]
      rfl
    | txt t =>
      obtain ⟨rfl, g5⟩ := HA
      have n7 := (g5.block _ (heap_lt n6) (by nofun)).trans n6
      have s7 := (g5.block _ (heap_lt hS) (by nofun)).trans hS
      go_upto_region 20 with (refine wpList_store_row rfl 149 _ _ rfl w5.heap.size (row15 2 0 t (.slice none 0 0)) rfl rfl 149 _ (heap_alloc_new w5 _) info15 rfl (all_one _ rfl) ?_)
      have gN := grown_setRow (grown_alloc w5 (.cells nil15 149)) (Nat.le_refl _) (row15 2 0 t (.slice none 0 0))
      have nN := setRow_heap _ _ _ (row15 2 0 t (.slice none 0 0)) _ _ (heap_alloc_new w5 (.cells nil15 149))
      change Code.wp _ _ _ _ ((w5.alloc (.cells nil15 149)).setRow w5.heap.size (row15 2 0 t (.slice none 0 0)))
      generalize (w5.alloc (.cells nil15 149)).setRow w5.heap.size (row15 2 0 t (.slice none 0 0)) = Y at *
      have n8 := (gN.block _ (heap_lt n7) (by nofun)).trans n7
      have s8 := (gN.block _ (heap_lt s7) (by nofun)).trans s7
      have k3 := (cell_of_row _ _ 3 _ _ _ s8).trans (show _ = some (Value.int .i64 0) from rfl)
      have GY := both (both GS g5) gN
      have zY := heap_lt n8
      have HO := observe15_flat 2 0 20000 400 t Y (by decide) (by decide) (by decide) (by decide) (by decide)
      clear n6 n7 hS s8 g5 gN GS s7
      go_upto_region 22 with fail
      go_upto_region 23 with (first
        | (refine wpList_load_row rfl 149 _ rfl w5.heap.size rfl 149 (row15 2 0 t (.slice none 0 0)) (0, 0) _ nN Tryz.underlying149 rfl info15 ?_)
        | (go_at_call 94; refine HO.mono ?_; rintro e w6 ⟨rfl, g6⟩)
        | (refine wpList_store_row rfl 48 _ _ rfl w6.heap.size (rowV 2 0 t (.slice none 0 0)) rfl rfl 48 _ (heap_alloc_new w6 _) infoV rfl (all_one _ rfl) ?_))
      have gM := grown_setRow (grown_alloc w6 (.cells (rowV 0 0 ⟨#[]⟩ (.slice none 0 0)) 48)) (Nat.le_refl _) (rowV 2 0 t (.slice none 0 0))
      have nM := setRow_heap _ _ _ (rowV 2 0 t (.slice none 0 0)) _ _ (heap_alloc_new w6 (.cells (rowV 0 0 ⟨#[]⟩ (.slice none 0 0)) 48))
      have n9 := (g6.block _ (heap_lt n8) (by nofun)).trans n8
      change Code.wp _ _ _ _ ((w6.alloc (.cells (rowV 0 0 ⟨#[]⟩ (.slice none 0 0)) 48)).setRow w6.heap.size (rowV 2 0 t (.slice none 0 0)))
      generalize (w6.alloc (.cells (rowV 0 0 ⟨#[]⟩ (.slice none 0 0)) 48)).setRow w6.heap.size (rowV 2 0 t (.slice none 0 0)) = U at *
      have nU := (gM.block _ (heap_lt n9) (by nofun)).trans n9
      go_wp2_with (first
        | (refine wpList_load_row rfl 48 _ rfl w6.heap.size rfl 48 (rowV 2 0 t (.slice none 0 0)) (0, 0) _ nM Tryz.underlying48 rfl infoV ?_)
        | (refine wpList_store_row rfl 48 _ _ rfl w.heap.size (rowV 2 0 t (.slice none 0 0)) rfl rfl 48 _ nU infoV rfl (all_one _ rfl) ?_))
      have q9 := setRow_heap _ _ _ (rowV 2 0 t (.slice none 0 0)) _ _ nU
      refine bodyPost_ret (results_row_tmp2 (p := 4) (u := 5) (v := 6) rfl _ _ w.heap.size 48 _ (0, 0) _ rfl q9 Tryz.underlying48 infoV) rfl ⟨grown_setRow (both (both GY g6) gM) (Nat.le_refl _) _, ?_⟩
      rw [if_neg (by decide)]
      rfl
    | bool b =>
      obtain ⟨q, r, rfl, hq1, hr1, g5, hq, hr⟩ := HA
      have n7 := (g5.block _ (heap_lt n6) (by nofun)).trans n6
      have s7 := (g5.block _ (heap_lt hS) (by nofun)).trans hS
      go_upto_region 20 with (refine wpList_store_row rfl 149 _ _ rfl w5.heap.size (row15 5 0 ⟨#[]⟩ (.slice (some ⟨q, 0, none⟩) 1 1)) rfl rfl 149 _ (heap_alloc_new w5 _) info15 rfl (all_one _ rfl) ?_)
      have gN := grown_setRow (grown_alloc w5 (.cells nil15 149)) (Nat.le_refl _) (row15 5 0 ⟨#[]⟩ (.slice (some ⟨q, 0, none⟩) 1 1))
      have nN := setRow_heap _ _ _ (row15 5 0 ⟨#[]⟩ (.slice (some ⟨q, 0, none⟩) 1 1)) _ _ (heap_alloc_new w5 (.cells nil15 149))
      change Code.wp _ _ _ _ ((w5.alloc (.cells nil15 149)).setRow w5.heap.size (row15 5 0 ⟨#[]⟩ (.slice (some ⟨q, 0, none⟩) 1 1)))
      generalize (w5.alloc (.cells nil15 149)).setRow w5.heap.size (row15 5 0 ⟨#[]⟩ (.slice (some ⟨q, 0, none⟩) 1 1)) = Y at *
      have n8 := (gN.block _ (heap_lt n7) (by nofun)).trans n7
      have s8 := (gN.block _ (heap_lt s7) (by nofun)).trans s7
      have k3 := (cell_of_row _ _ 3 _ _ _ s8).trans (show _ = some (Value.int .i64 0) from rfl)
      have GY := both (both GS g5) gN
      have zY := heap_lt n8
      have hq8 := (gN.block _ (heap_lt hq) (by nofun)).trans hq
      have hr8 := (gN.block _ (heap_lt hr) (by nofun)).trans hr
      have HO := observe_bool15 b q r Y hq8 hr8
      clear n6 n7 hS s8 g5 gN GS s7
      go_upto_region 22 with fail
      go_upto_region 23 with (first
        | (refine wpList_load_row rfl 149 _ rfl w5.heap.size rfl 149 (row15 5 0 ⟨#[]⟩ (.slice (some ⟨q, 0, none⟩) 1 1)) (0, 0) _ nN Tryz.underlying149 rfl info15 ?_)
        | (go_at_call 94; refine HO.mono ?_; rintro e w6 ⟨p, c, rfl, g6, hcp, hpl⟩)
        | (refine wpList_store_row rfl 48 _ _ rfl w6.heap.size (rowV 5 0 ⟨#[]⟩ (.slice (some ⟨p, 0, none⟩) 1 c)) rfl rfl 48 _ (heap_alloc_new w6 _) infoV rfl (all_one _ rfl) ?_))
      have gM := grown_setRow (grown_alloc w6 (.cells (rowV 0 0 ⟨#[]⟩ (.slice none 0 0)) 48)) (Nat.le_refl _) (rowV 5 0 ⟨#[]⟩ (.slice (some ⟨p, 0, none⟩) 1 c))
      have nM := setRow_heap _ _ _ (rowV 5 0 ⟨#[]⟩ (.slice (some ⟨p, 0, none⟩) 1 c)) _ _ (heap_alloc_new w6 (.cells (rowV 0 0 ⟨#[]⟩ (.slice none 0 0)) 48))
      have n9 := (g6.block _ (heap_lt n8) (by nofun)).trans n8
      change Code.wp _ _ _ _ ((w6.alloc (.cells (rowV 0 0 ⟨#[]⟩ (.slice none 0 0)) 48)).setRow w6.heap.size (rowV 5 0 ⟨#[]⟩ (.slice (some ⟨p, 0, none⟩) 1 c)))
      generalize (w6.alloc (.cells (rowV 0 0 ⟨#[]⟩ (.slice none 0 0)) 48)).setRow w6.heap.size (rowV 5 0 ⟨#[]⟩ (.slice (some ⟨p, 0, none⟩) 1 c)) = U at *
      have nU := (gM.block _ (heap_lt n9) (by nofun)).trans n9
      go_wp2_with (first
        | (refine wpList_load_row rfl 48 _ rfl w6.heap.size rfl 48 (rowV 5 0 ⟨#[]⟩ (.slice (some ⟨p, 0, none⟩) 1 c)) (0, 0) _ nM Tryz.underlying48 rfl infoV ?_)
        | (refine wpList_store_row rfl 48 _ _ rfl w.heap.size (rowV 5 0 ⟨#[]⟩ (.slice (some ⟨p, 0, none⟩) 1 c)) rfl rfl 48 _ nU infoV rfl (all_one _ rfl) ?_))
      have q9 := setRow_heap _ _ _ (rowV 5 0 ⟨#[]⟩ (.slice (some ⟨p, 0, none⟩) 1 c)) _ _ nU
      refine bodyPost_ret (results_row_tmp2 (p := 4) (u := 5) (v := 6) rfl _ _ w.heap.size 48 _ (0, 0) _ rfl q9 Tryz.underlying48 infoV) rfl ⟨grown_setRow (both (both GY g6) gM) (Nat.le_refl _) _, ?_⟩
      rw [if_neg (by decide)]
      refine ⟨p, c, rfl, ?_⟩
      have hp := World.block_lt_of_cell? w6 _ hcp
      have hcp2 := cell_grown hcp gM
      rw [cell_setRow_other _ _ _ _ (show p ≠ w.heap.size from fun e => ?_)]
      · exact hcp2
      · omega
end Go.Proofs.YtidolpcbbbakmaaGreat
