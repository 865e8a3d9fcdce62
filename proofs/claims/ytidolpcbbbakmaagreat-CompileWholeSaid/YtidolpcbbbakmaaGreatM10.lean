/- Fit of the reference of layer 15, at one and at two values; back; Valid of flat values. back of the reference of layer 15. Valid of the reference of layer 14, at flat numbers and texts. -/
import Derived.Test.YtidolpcbbbakmaaGreatM9
import Derived.LoopN
import Derived.Laws.ResultCell
import Derived.BigQuiet
namespace Go.Proofs.YtidolpcbbbakmaaGreat
open Go Go.RowKit
def wantP (n : Int) : Int := if textsP n = true then 2 else 1
theorem ne_dec (a b : Int) (h : a ≠ b) : (a != b) = true := by simp [h]
theorem fit15_one (rb cp : Nat) (n oa : Int) (w : World) (h0 : w.cell? ⟨rb, 0, none⟩ = some (.int .i64 oa)) :
    Calls Tryz.prog 80 #[.int .i64 n, .slice (some ⟨rb, 0, none⟩) 1 cp] w fun e w' => e = .returned (.bool (decide (oa = wantP n) && (1 == arityP n))) ∧ w = w' := by
  have HT := fun wx => texts15_any n wx
  have HA := fun wx => arity15_any n wx
  have hw : textsP n = true ∧ wantP n = 2 ∨ textsP n = false ∧ wantP n = 1 := by
    unfold wantP
    cases textsP n <;> simp
  generalize textsP n = t at *
  generalize wantP n = wt at *
  generalize arityP n = ar at *
  rcases hw with ⟨rfl, rfl⟩ | ⟨rfl, rfl⟩
  all_goals
    go_enter Tryz.func80, Tryz.ntmps80
    go_wp2_with (go_at_call 89; refine (HT _).mono ?_; rintro e w' ⟨rfl, rfl⟩)
    refine wp_loop_rounds 2 ?_
    rw [rounds_succ]
    go_wp2_with fail
    · go_ret
      refine ⟨ret_bool ?_, rfl⟩
      simp_all
    · rw [rounds_succ]
      go_wp2_with (go_at_call 90; refine (HA _).mono ?_; rintro e w' ⟨rfl, rfl⟩)
      go_ret
      refine ⟨ret_bool ?_, rfl⟩
      simp_all
theorem fit15_two (rb cp : Nat) (n oa ob : Int) (w : World) (h0 : w.cell? ⟨rb, 0, none⟩ = some (.int .i64 oa)) (h1 : w.cell? ⟨rb, 25, none⟩ = some (.int .i64 ob)) :
    Calls Tryz.prog 80 #[.int .i64 n, .slice (some ⟨rb, 0, none⟩) 2 cp] w fun e w' => e = .returned (.bool (decide (oa = wantP n) && decide (ob = wantP n) && (2 == arityP n))) ∧ w = w' := by
  have HT := fun wx => texts15_any n wx
  have HA := fun wx => arity15_any n wx
  have hw : textsP n = true ∧ wantP n = 2 ∨ textsP n = false ∧ wantP n = 1 := by
    unfold wantP
    cases textsP n <;> simp
  generalize textsP n = t at *
  generalize wantP n = wt at *
  generalize arityP n = ar at *
  rcases hw with ⟨rfl, rfl⟩ | ⟨rfl, rfl⟩
  all_goals
    go_enter Tryz.func80, Tryz.ntmps80
    go_wp2_with (go_at_call 89; refine (HT _).mono ?_; rintro e w' ⟨rfl, rfl⟩)
    refine wp_loop_rounds 3 ?_
    rw [rounds_succ]
    go_wp2_with fail
    · go_ret
      refine ⟨ret_bool ?_, rfl⟩
      simp_all
    · rw [rounds_succ]
      go_wp2_with fail
      · go_ret
        refine ⟨ret_bool ?_, rfl⟩
        simp_all
      · rw [rounds_succ]
        go_wp2_with (go_at_call 90; refine (HA _).mono ?_; rintro e w' ⟨rfl, rfl⟩)
        go_ret
        refine ⟨ret_bool ?_, rfl⟩
        simp_all
theorem results_row_tmp {fn : Func} {p u : Tmp} {ty : TypeId} {P : Program} (h : fn.results = #[.cell p ty, .tmp u]) (tmps : Array Value) (w : World) (g : Nat) (t : TypeId) (cs : Array Value) (fr : Nat × Nat) (fs : Array Field)
    (hp : tmps.getD p undef = .pointer (some ⟨g, 0, none⟩)) (hg : w.heap[g]? = some (.cells cs t fr))
    (hu : P.underlying ty = some (.struct fs)) (hi : (P.info? ty).map (·.size) = some cs.size) :
    (results fn tmps).run P w = .ok (.tuple #[.agg cs, tmps.getD u undef]) w := by
  have hp' : tmps[p]?.getD undef = .pointer (some ⟨g, 0, none⟩) := by simpa using hp
  rw [results_cell_tmp h]
  simp [hp', asAddr, run_loadVar_row w g t ty cs fr (.struct fs) hg hu rfl hi, Result.andThen]
/-- Take number i first; its temporary is d. -/
theorem held_take {P : Program} {ops : Array Oper} {Q : Exit → Act → World → Prop} {md : Region.Mode} {S : World → Prop} {fuel : Nat} {listed : Array Bool} {a : Act} {w : World} (i d : Nat) (v : Value) {oi : Oper} (hi : ops[i]? = some oi) (hd : oi.dst = some d)
    (hs : Region.noSelect ops = true) (hf : Region.free md ops listed i = true) (hr : (Region.ready md ops listed).contains i = true)
    (hQ : ∀ c a w, Q (.panic c) (a.put oi.dst v) w → Q (.panic c) a w) (hy : YieldsIf P ops S oi v a) (hS : S w)
    (h : wpAnyH P md ops Q S fuel (listed.setIfInBounds i true) (a.put (some d) v) w) : wpAnyH P md ops Q S (fuel + 1) listed a w :=
  wpAnyH_take hi hs hf hr hQ hy hS (by rw [hd]; exact h)
/-- The one operation that may come up stores a whole row. -/
theorem held_store {P : Program} {ops : Array Oper} {Q : Exit → Act → World → Prop} {md : Region.Mode} {S : World → Prop} {fuel : Nat} {listed : Array Bool} {a : Act} {w : World} (i : Nat) {o : Oper}
    (hr : Region.ready md ops listed = [i]) (ho : ops[i]? = some o) (hg : o.guard = none) (hdn : o.dst = none) (ty : TypeId) (x y : Operand) (hop : o.op = .store ty x y) (g : Nat) (cells : Array Value) (hx : a.eval x = .pointer (some ⟨g, 0, none⟩)) (hy : a.eval y = .agg cells)
    (t : TypeId) (old : Array Value) (h0 : w.heap[g]? = some (.cells old t (0, 0))) (hi : (P.info? ty).map (·.size) = some cells.size) (hold : old.size = cells.size) (h1 : cells.all (·.oneCell') = true) (hS : S (w.setRow g cells))
    (h : wpAnyH P md ops Q S fuel (listed.setIfInBounds i true) a (w.setRow g cells)) : wpAnyH P md ops Q S (fuel + 1) listed a w :=
  wpAnyH_ready hr (by simp) (AllReadyH.cons ho (fun K hK => step_store hg ty x y hop g cells hx hy t old h0 hi hold h1 (hK.out _ _ hS (fun _ => by rw [hdn]; exact h))) AllReadyH.nil)
set_option maxRecDepth 100000 in
set_option maxHeartbeats 4000000 in
theorem back15_1 (n : Int) (s : ByteArray) (w : World) :
    Calls Tryz.prog 92 #[.agg #[.int .i64 1, .int .i64 n, .string s, .slice none 0 0, .slice none 0 0]] w fun e w' => e = .returned (.tuple #[.agg (row15 1 n s (.slice none 0 0)), .bool true]) ∧ w.grownBy w' none := by
  have g0 := grown_alloc w (.cells #[.int .i64 1, .int .i64 n, .string s, .slice none 0 0, .slice none 0 0] 48)
  have n0 := heap_alloc_new w (.cells #[.int .i64 1, .int .i64 n, .string s, .slice none 0 0, .slice none 0 0] 48)
  have e0 : (w.alloc (.cells #[.int .i64 1, .int .i64 n, .string s, .slice none 0 0, .slice none 0 0] 48)).heap.size = w.heap.size + 1 := by simp
  go_enter Tryz.func92, Tryz.ntmps92
  go_upto_region 1 with fail
  change Code.wp _ _ _ _ ((w.alloc (.cells #[.int .i64 1, .int .i64 n, .string s, .slice none 0 0, .slice none 0 0] 48)).alloc (.cells nil15 149))
  generalize w.alloc (.cells #[.int .i64 1, .int .i64 n, .string s, .slice none 0 0, .slice none 0 0] 48) = W at *
  have g1 := grown_alloc W (.cells nil15 149)
  have n1 := heap_alloc_at e0 (.cells nil15 149)
  have e1 : (W.alloc (.cells nil15 149)).heap.size = w.heap.size + 1 + 1 := by simp [e0]
  generalize W.alloc (.cells nil15 149) = A at *
  have n2 := (g1.block _ (heap_lt n0) (by nofun)).trans n0
  have gg := both (both g0 g1) (grown_drew _)
  have n3 : A.drew.heap[w.heap.size + 1]? = some (.cells nil15 149 (0, 0)) := n1
  have n4 : A.drew.heap[w.heap.size]? = _ := n2
  refine wp_region_held_drew (S := fun w' => w'.cell? ⟨w.heap.size, 0, none⟩ = some (.int .i64 1) ∧ w'.cell? ⟨w.heap.size, 1, none⟩ = some (.int .i64 n) ∧ w'.cell? ⟨w.heap.size, 2, none⟩ = some (.string s)) (by kernel_rfl) ⟨cell_of_row _ _ 0 _ _ _ n4, cell_of_row _ _ 1 _ _ _ n4, cell_of_row _ _ 2 _ _ _ n4⟩ (fun hHeld => ?_)
  refine held_take 0 4 (.pointer (some ⟨w.heap.size, 0, none⟩)) rfl rfl (by kernel_rfl) (by kernel_rfl) (by kernel_rfl) (fun _ _ _ h => h) (Or.inl ⟨by rfl, fun w9 hSw => ?y0⟩) (by assumption) ?r0
  case y0 =>
    obtain ⟨c0, c1, c2⟩ := hSw
    clear hHeld
    go_simp
  simp only [Act.put, List.setIfInBounds_toArray, List.set_cons_zero, List.set_cons_succ]
  refine held_take 1 5 (.int .i64 1) rfl rfl (by kernel_rfl) (by kernel_rfl) (by kernel_rfl) (fun _ _ _ h => h) (Or.inl ⟨by rfl, fun w9 hSw => ?y1⟩) (by assumption) ?r1
  case y1 =>
    obtain ⟨c0, c1, c2⟩ := hSw
    clear hHeld
    go_simp
  simp only [Act.put, List.setIfInBounds_toArray, List.set_cons_zero, List.set_cons_succ]
  refine held_take 2 6 (.pointer (some ⟨w.heap.size, 1, none⟩)) rfl rfl (by kernel_rfl) (by kernel_rfl) (by kernel_rfl) (fun _ _ _ h => h) (Or.inl ⟨by rfl, fun w9 hSw => ?y2⟩) (by assumption) ?r2
  case y2 =>
    obtain ⟨c0, c1, c2⟩ := hSw
    clear hHeld
    go_simp
  simp only [Act.put, List.setIfInBounds_toArray, List.set_cons_zero, List.set_cons_succ]
  refine held_take 3 7 (.int .i64 n) rfl rfl (by kernel_rfl) (by kernel_rfl) (by kernel_rfl) (fun _ _ _ h => h) (Or.inl ⟨by rfl, fun w9 hSw => ?y3⟩) (by assumption) ?r3
  case y3 =>
    obtain ⟨c0, c1, c2⟩ := hSw
    clear hHeld
    go_simp
  simp only [Act.put, List.setIfInBounds_toArray, List.set_cons_zero, List.set_cons_succ]
  refine held_take 4 8 (.pointer (some ⟨w.heap.size, 2, none⟩)) rfl rfl (by kernel_rfl) (by kernel_rfl) (by kernel_rfl) (fun _ _ _ h => h) (Or.inl ⟨by rfl, fun w9 hSw => ?y4⟩) (by assumption) ?r4
  case y4 =>
    obtain ⟨c0, c1, c2⟩ := hSw
    clear hHeld
    go_simp
  simp only [Act.put, List.setIfInBounds_toArray, List.set_cons_zero, List.set_cons_succ]
  refine held_take 5 9 (.string s) rfl rfl (by kernel_rfl) (by kernel_rfl) (by kernel_rfl) (fun _ _ _ h => h) (Or.inl ⟨by rfl, fun w9 hSw => ?y5⟩) (by assumption) ?r5
  case y5 =>
    obtain ⟨c0, c1, c2⟩ := hSw
    clear hHeld
    go_simp
  simp only [Act.put, List.setIfInBounds_toArray, List.set_cons_zero, List.set_cons_succ]
  refine held_take 6 10 (.agg (row15 1 n s (.slice none 0 0))) rfl rfl (by kernel_rfl) (by kernel_rfl) (by kernel_rfl) (fun _ _ _ h => h) (Or.inl ⟨by rfl, fun w9 hSw => ?y6⟩) (by assumption) ?r6
  case y6 =>
    obtain ⟨c0, c1, c2⟩ := hSw
    clear hHeld
    go_simp
    rfl
  simp only [Act.put, List.setIfInBounds_toArray, List.set_cons_zero, List.set_cons_succ]
  refine held_take 7 11 (.pointer (some ⟨w.heap.size, 0, none⟩)) rfl rfl (by kernel_rfl) (by kernel_rfl) (by kernel_rfl) (fun _ _ _ h => h) (Or.inl ⟨by rfl, fun w9 hSw => ?y7⟩) (by assumption) ?r7
  case y7 =>
    obtain ⟨c0, c1, c2⟩ := hSw
    clear hHeld
    go_simp
  simp only [Act.put, List.setIfInBounds_toArray, List.set_cons_zero, List.set_cons_succ]
  refine held_take 8 12 (.int .i64 1) rfl rfl (by kernel_rfl) (by kernel_rfl) (by kernel_rfl) (fun _ _ _ h => h) (Or.inl ⟨by rfl, fun w9 hSw => ?y8⟩) (by assumption) ?r8
  case y8 =>
    obtain ⟨c0, c1, c2⟩ := hSw
    clear hHeld
    go_simp
  simp only [Act.put, List.setIfInBounds_toArray, List.set_cons_zero, List.set_cons_succ]
  refine held_take 9 13 (.bool true) rfl rfl (by kernel_rfl) (by kernel_rfl) (by kernel_rfl) (fun _ _ _ h => h) (Or.inl ⟨by rfl, fun w9 hSw => ?y9⟩) (by assumption) ?r9
  case y9 =>
    obtain ⟨c0, c1, c2⟩ := hSw
    clear hHeld
    go_simp
  simp only [Act.put, List.setIfInBounds_toArray, List.set_cons_zero, List.set_cons_succ]
  refine held_take 10 14 (.bool true) rfl rfl (by kernel_rfl) (by kernel_rfl) (by kernel_rfl) (fun _ _ _ h => h) (Or.inl ⟨by rfl, fun w9 hSw => ?y10⟩) (by assumption) ?r10
  case y10 =>
    obtain ⟨c0, c1, c2⟩ := hSw
    clear hHeld
    go_simp
  simp only [Act.put, List.setIfInBounds_toArray, List.set_cons_zero, List.set_cons_succ]
  refine held_take 11 15 undef rfl rfl (by kernel_rfl) (by kernel_rfl) (by kernel_rfl) (fun _ _ _ h => h) (Or.inr ⟨by kernel_rfl, rfl⟩) (by assumption) ?_
  simp only [Act.put, List.setIfInBounds_toArray, List.set_cons_zero, List.set_cons_succ]
  refine held_take 12 16 undef rfl rfl (by kernel_rfl) (by kernel_rfl) (by kernel_rfl) (fun _ _ _ h => h) (Or.inr ⟨by kernel_rfl, rfl⟩) (by assumption) ?_
  simp only [Act.put, List.setIfInBounds_toArray, List.set_cons_zero, List.set_cons_succ]
  refine held_take 13 17 undef rfl rfl (by kernel_rfl) (by kernel_rfl) (by kernel_rfl) (fun _ _ _ h => h) (Or.inr ⟨by kernel_rfl, rfl⟩) (by assumption) ?_
  simp only [Act.put, List.setIfInBounds_toArray, List.set_cons_zero, List.set_cons_succ]
  refine held_take 14 18 (.bool true) rfl rfl (by kernel_rfl) (by kernel_rfl) (by kernel_rfl) (fun _ _ _ h => h) (Or.inl ⟨by rfl, fun w9 hSw => ?y14⟩) (by assumption) ?r14
  case y14 =>
    obtain ⟨c0, c1, c2⟩ := hSw
    clear hHeld
    go_simp
  simp only [Act.put, List.setIfInBounds_toArray, List.set_cons_zero, List.set_cons_succ]
  refine held_store 15 (by kernel_rfl) (by rfl) (by rfl) (by rfl) 149 _ _ (by rfl) (w.heap.size + 1) (row15 1 n s (.slice none 0 0)) (by rfl) (by rfl) 149 nil15 n3 info15 rfl (all_one _ rfl) ?hs ?_
  case hs =>
    have q := (setRow_other A.drew (w.heap.size + 1) w.heap.size (row15 1 n s (.slice none 0 0)) (by omega)).trans n4
    exact ⟨cell_of_row _ _ 0 _ _ _ q, cell_of_row _ _ 1 _ _ _ q, cell_of_row _ _ 2 _ _ _ q⟩
  refine held_take 16 3 (.bool true) rfl rfl (by kernel_rfl) (by kernel_rfl) (by kernel_rfl) (fun _ _ _ h => h) (Or.inl ⟨by rfl, fun w9 hSw => ?y16⟩) ?hs ?_
  case y16 => go_simp
  case hs =>
    have q := (setRow_other A.drew (w.heap.size + 1) w.heap.size (row15 1 n s (.slice none 0 0)) (by omega)).trans n4
    exact ⟨cell_of_row _ _ 0 _ _ _ q, cell_of_row _ _ 1 _ _ _ q, cell_of_row _ _ 2 _ _ _ q⟩
  simp only [Act.put, List.setIfInBounds_toArray, List.set_cons_zero, List.set_cons_succ]
  refine wpAnyH_done (by kernel_rfl) ?_ _
  go_wp2_with fail
  have q2 := setRow_heap _ _ _ (row15 1 n s (.slice none 0 0)) _ _ n3
  refine bodyPost_ret (results_row_tmp rfl _ _ (w.heap.size + 1) 149 _ (0, 0) _ rfl q2 Tryz.underlying149 info15) rfl ⟨rfl, ?_⟩
  exact grown_setRow gg (by omega) _
set_option maxRecDepth 100000 in
set_option maxHeartbeats 4000000 in
theorem back15_2 (n : Int) (s : ByteArray) (w : World) :
    Calls Tryz.prog 92 #[.agg #[.int .i64 2, .int .i64 n, .string s, .slice none 0 0, .slice none 0 0]] w fun e w' => e = .returned (.tuple #[.agg (row15 2 n s (.slice none 0 0)), .bool true]) ∧ w.grownBy w' none := by
  have g0 := grown_alloc w (.cells #[.int .i64 2, .int .i64 n, .string s, .slice none 0 0, .slice none 0 0] 48)
  have n0 := heap_alloc_new w (.cells #[.int .i64 2, .int .i64 n, .string s, .slice none 0 0, .slice none 0 0] 48)
  have e0 : (w.alloc (.cells #[.int .i64 2, .int .i64 n, .string s, .slice none 0 0, .slice none 0 0] 48)).heap.size = w.heap.size + 1 := by simp
  go_enter Tryz.func92, Tryz.ntmps92
  go_upto_region 1 with fail
  change Code.wp _ _ _ _ ((w.alloc (.cells #[.int .i64 2, .int .i64 n, .string s, .slice none 0 0, .slice none 0 0] 48)).alloc (.cells nil15 149))
  generalize w.alloc (.cells #[.int .i64 2, .int .i64 n, .string s, .slice none 0 0, .slice none 0 0] 48) = W at *
  have g1 := grown_alloc W (.cells nil15 149)
  have n1 := heap_alloc_at e0 (.cells nil15 149)
  have e1 : (W.alloc (.cells nil15 149)).heap.size = w.heap.size + 1 + 1 := by simp [e0]
  generalize W.alloc (.cells nil15 149) = A at *
  have n2 := (g1.block _ (heap_lt n0) (by nofun)).trans n0
  have gg := both (both g0 g1) (grown_drew _)
  have n3 : A.drew.heap[w.heap.size + 1]? = some (.cells nil15 149 (0, 0)) := n1
  have n4 : A.drew.heap[w.heap.size]? = _ := n2
  refine wp_region_held_drew (S := fun w' => w'.cell? ⟨w.heap.size, 0, none⟩ = some (.int .i64 2) ∧ w'.cell? ⟨w.heap.size, 1, none⟩ = some (.int .i64 n) ∧ w'.cell? ⟨w.heap.size, 2, none⟩ = some (.string s)) (by kernel_rfl) ⟨cell_of_row _ _ 0 _ _ _ n4, cell_of_row _ _ 1 _ _ _ n4, cell_of_row _ _ 2 _ _ _ n4⟩ (fun hHeld => ?_)
  refine held_take 0 4 (.pointer (some ⟨w.heap.size, 0, none⟩)) rfl rfl (by kernel_rfl) (by kernel_rfl) (by kernel_rfl) (fun _ _ _ h => h) (Or.inl ⟨by rfl, fun w9 hSw => ?y0⟩) (by assumption) ?r0
  case y0 =>
    obtain ⟨c0, c1, c2⟩ := hSw
    clear hHeld
    go_simp
  simp only [Act.put, List.setIfInBounds_toArray, List.set_cons_zero, List.set_cons_succ]
  refine held_take 1 5 (.int .i64 2) rfl rfl (by kernel_rfl) (by kernel_rfl) (by kernel_rfl) (fun _ _ _ h => h) (Or.inl ⟨by rfl, fun w9 hSw => ?y1⟩) (by assumption) ?r1
  case y1 =>
    obtain ⟨c0, c1, c2⟩ := hSw
    clear hHeld
    go_simp
  simp only [Act.put, List.setIfInBounds_toArray, List.set_cons_zero, List.set_cons_succ]
  refine held_take 2 6 (.pointer (some ⟨w.heap.size, 1, none⟩)) rfl rfl (by kernel_rfl) (by kernel_rfl) (by kernel_rfl) (fun _ _ _ h => h) (Or.inl ⟨by rfl, fun w9 hSw => ?y2⟩) (by assumption) ?r2
  case y2 =>
    obtain ⟨c0, c1, c2⟩ := hSw
    clear hHeld
    go_simp
  simp only [Act.put, List.setIfInBounds_toArray, List.set_cons_zero, List.set_cons_succ]
  refine held_take 3 7 (.int .i64 n) rfl rfl (by kernel_rfl) (by kernel_rfl) (by kernel_rfl) (fun _ _ _ h => h) (Or.inl ⟨by rfl, fun w9 hSw => ?y3⟩) (by assumption) ?r3
  case y3 =>
    obtain ⟨c0, c1, c2⟩ := hSw
    clear hHeld
    go_simp
  simp only [Act.put, List.setIfInBounds_toArray, List.set_cons_zero, List.set_cons_succ]
  refine held_take 4 8 (.pointer (some ⟨w.heap.size, 2, none⟩)) rfl rfl (by kernel_rfl) (by kernel_rfl) (by kernel_rfl) (fun _ _ _ h => h) (Or.inl ⟨by rfl, fun w9 hSw => ?y4⟩) (by assumption) ?r4
  case y4 =>
    obtain ⟨c0, c1, c2⟩ := hSw
    clear hHeld
    go_simp
  simp only [Act.put, List.setIfInBounds_toArray, List.set_cons_zero, List.set_cons_succ]
  refine held_take 5 9 (.string s) rfl rfl (by kernel_rfl) (by kernel_rfl) (by kernel_rfl) (fun _ _ _ h => h) (Or.inl ⟨by rfl, fun w9 hSw => ?y5⟩) (by assumption) ?r5
  case y5 =>
    obtain ⟨c0, c1, c2⟩ := hSw
    clear hHeld
    go_simp
  simp only [Act.put, List.setIfInBounds_toArray, List.set_cons_zero, List.set_cons_succ]
  refine held_take 6 10 (.agg (row15 2 n s (.slice none 0 0))) rfl rfl (by kernel_rfl) (by kernel_rfl) (by kernel_rfl) (fun _ _ _ h => h) (Or.inl ⟨by rfl, fun w9 hSw => ?y6⟩) (by assumption) ?r6
  case y6 =>
    obtain ⟨c0, c1, c2⟩ := hSw
    clear hHeld
    go_simp
    rfl
  simp only [Act.put, List.setIfInBounds_toArray, List.set_cons_zero, List.set_cons_succ]
  refine held_take 7 11 (.pointer (some ⟨w.heap.size, 0, none⟩)) rfl rfl (by kernel_rfl) (by kernel_rfl) (by kernel_rfl) (fun _ _ _ h => h) (Or.inl ⟨by rfl, fun w9 hSw => ?y7⟩) (by assumption) ?r7
  case y7 =>
    obtain ⟨c0, c1, c2⟩ := hSw
    clear hHeld
    go_simp
  simp only [Act.put, List.setIfInBounds_toArray, List.set_cons_zero, List.set_cons_succ]
  refine held_take 8 12 (.int .i64 2) rfl rfl (by kernel_rfl) (by kernel_rfl) (by kernel_rfl) (fun _ _ _ h => h) (Or.inl ⟨by rfl, fun w9 hSw => ?y8⟩) (by assumption) ?r8
  case y8 =>
    obtain ⟨c0, c1, c2⟩ := hSw
    clear hHeld
    go_simp
  simp only [Act.put, List.setIfInBounds_toArray, List.set_cons_zero, List.set_cons_succ]
  refine held_take 9 13 (.bool false) rfl rfl (by kernel_rfl) (by kernel_rfl) (by kernel_rfl) (fun _ _ _ h => h) (Or.inl ⟨by rfl, fun w9 hSw => ?y9⟩) (by assumption) ?r9
  case y9 =>
    obtain ⟨c0, c1, c2⟩ := hSw
    clear hHeld
    go_simp
  simp only [Act.put, List.setIfInBounds_toArray, List.set_cons_zero, List.set_cons_succ]
  refine held_take 10 14 (.bool false) rfl rfl (by kernel_rfl) (by kernel_rfl) (by kernel_rfl) (fun _ _ _ h => h) (Or.inl ⟨by rfl, fun w9 hSw => ?y10⟩) (by assumption) ?r10
  case y10 =>
    obtain ⟨c0, c1, c2⟩ := hSw
    clear hHeld
    go_simp
  simp only [Act.put, List.setIfInBounds_toArray, List.set_cons_zero, List.set_cons_succ]
  refine held_take 11 15 (.pointer (some ⟨w.heap.size, 0, none⟩)) rfl rfl (by kernel_rfl) (by kernel_rfl) (by kernel_rfl) (fun _ _ _ h => h) (Or.inl ⟨by rfl, fun w9 hSw => ?y11⟩) (by assumption) ?r11
  case y11 =>
    obtain ⟨c0, c1, c2⟩ := hSw
    clear hHeld
    go_simp
  simp only [Act.put, List.setIfInBounds_toArray, List.set_cons_zero, List.set_cons_succ]
  refine held_take 12 16 (.int .i64 2) rfl rfl (by kernel_rfl) (by kernel_rfl) (by kernel_rfl) (fun _ _ _ h => h) (Or.inl ⟨by rfl, fun w9 hSw => ?y12⟩) (by assumption) ?r12
  case y12 =>
    obtain ⟨c0, c1, c2⟩ := hSw
    clear hHeld
    go_simp
  simp only [Act.put, List.setIfInBounds_toArray, List.set_cons_zero, List.set_cons_succ]
  refine held_take 13 17 (.bool true) rfl rfl (by kernel_rfl) (by kernel_rfl) (by kernel_rfl) (fun _ _ _ h => h) (Or.inl ⟨by rfl, fun w9 hSw => ?y13⟩) (by assumption) ?r13
  case y13 =>
    obtain ⟨c0, c1, c2⟩ := hSw
    clear hHeld
    go_simp
  simp only [Act.put, List.setIfInBounds_toArray, List.set_cons_zero, List.set_cons_succ]
  refine held_take 14 18 (.bool true) rfl rfl (by kernel_rfl) (by kernel_rfl) (by kernel_rfl) (fun _ _ _ h => h) (Or.inl ⟨by rfl, fun w9 hSw => ?y14⟩) (by assumption) ?r14
  case y14 =>
    obtain ⟨c0, c1, c2⟩ := hSw
    clear hHeld
    go_simp
  simp only [Act.put, List.setIfInBounds_toArray, List.set_cons_zero, List.set_cons_succ]
  refine held_store 15 (by kernel_rfl) (by rfl) (by rfl) (by rfl) 149 _ _ (by rfl) (w.heap.size + 1) (row15 2 n s (.slice none 0 0)) (by rfl) (by rfl) 149 nil15 n3 info15 rfl (all_one _ rfl) ?hs ?_
  case hs =>
    have q := (setRow_other A.drew (w.heap.size + 1) w.heap.size (row15 2 n s (.slice none 0 0)) (by omega)).trans n4
    exact ⟨cell_of_row _ _ 0 _ _ _ q, cell_of_row _ _ 1 _ _ _ q, cell_of_row _ _ 2 _ _ _ q⟩
  refine held_take 16 3 (.bool true) rfl rfl (by kernel_rfl) (by kernel_rfl) (by kernel_rfl) (fun _ _ _ h => h) (Or.inl ⟨by rfl, fun w9 hSw => ?y16⟩) ?hs ?_
  case y16 => go_simp
  case hs =>
    have q := (setRow_other A.drew (w.heap.size + 1) w.heap.size (row15 2 n s (.slice none 0 0)) (by omega)).trans n4
    exact ⟨cell_of_row _ _ 0 _ _ _ q, cell_of_row _ _ 1 _ _ _ q, cell_of_row _ _ 2 _ _ _ q⟩
  simp only [Act.put, List.setIfInBounds_toArray, List.set_cons_zero, List.set_cons_succ]
  refine wpAnyH_done (by kernel_rfl) ?_ _
  go_wp2_with fail
  have q2 := setRow_heap _ _ _ (row15 2 n s (.slice none 0 0)) _ _ n3
  refine bodyPost_ret (results_row_tmp rfl _ _ (w.heap.size + 1) 149 _ (0, 0) _ rfl q2 Tryz.underlying149 info15) rfl ⟨rfl, ?_⟩
  exact grown_setRow gg (by omega) _

theorem val_cells {w : World} {q : Nat} {x y z u v : Value} {t : TypeId} (h : w.heap[q]? = some (.cells #[x, y, z, u, v] t (0, 0))) : w.cell? ⟨q, 0, none⟩ = some x ∧ w.cell? ⟨q, 1, none⟩ = some y ∧ w.cell? ⟨q, 2, none⟩ = some z ∧ w.cell? ⟨q, 3, none⟩ = some u ∧ w.cell? ⟨q, 4, none⟩ = some v := by
  simp [World.cell?, h]
theorem count14_flat (op n : Int) (s : ByteArray) (w : World) :
    Calls Tryz.prog 98 #[.agg #[.int .i64 op, .int .i64 n, .string s, .slice none 0 0, .slice none 0 0], .int .i64 20000, .int .i64 400] w fun e w' => e = .returned (.int .i64 19999) ∧ w.grownBy w' none := by
  have g0 := grown_alloc w (.cells #[.int .i64 op, .int .i64 n, .string s, .slice none 0 0, .slice none 0 0] 48)
  go_enter Tryz.func98, Tryz.ntmps98
  go_wp2_with fail
  refine wp_loop_rounds 1 ?_
  rw [rounds_succ]
  go_wp2_with fail
  go_ret
  exact ⟨rfl, g0⟩
def numOk (n : Int) (s : ByteArray) : Bool := decide (-4503599627370496 ≤ n) && decide (n ≤ 4503599627370496) && s.toList.isEmpty
def txtOk (n : Int) (s : ByteArray) : Bool := decide (n = 0) && decide ((s.size : Int) ≤ 16384)
set_option maxRecDepth 100000 in
set_option maxHeartbeats 2000000 in
theorem node14_int (n : Int) (s : ByteArray) (w : World) :
    Calls Tryz.prog 107 #[.agg #[.int .i64 1, .int .i64 n, .string s, .slice none 0 0, .slice none 0 0]] w fun e w' => e = .returned (.bool (numOk n s)) ∧ w.grownBy w' none := by
  have g0 := grown_alloc w (.cells #[.int .i64 1, .int .i64 n, .string s, .slice none 0 0, .slice none 0 0] 48)
  go_enter Tryz.func107, Tryz.ntmps107
  go_wp2_with fail
  go_quiet (fail)
  go_wp2_with fail
  all_goals
    go_ret
    refine ⟨ret_bool ?_, both (grown_alloc _ _) ⟨rfl, rfl, rfl, Nat.le_refl _, fun _ _ _ => rfl⟩⟩
    unfold numOk
    first
      | (simp [*]; done)
      | (simp [*]; omega)
set_option maxRecDepth 100000 in
set_option maxHeartbeats 2000000 in
theorem node14_txt (n : Int) (s : ByteArray) (w : World) :
    Calls Tryz.prog 107 #[.agg #[.int .i64 2, .int .i64 n, .string s, .slice none 0 0, .slice none 0 0]] w fun e w' => e = .returned (.bool (txtOk n s)) ∧ w.grownBy w' none := by
  have g0 := grown_alloc w (.cells #[.int .i64 2, .int .i64 n, .string s, .slice none 0 0, .slice none 0 0] 48)
  go_enter Tryz.func107, Tryz.ntmps107
  go_wp2_with fail
  go_quiet (fail)
  go_wp2_with fail
  all_goals
    go_ret
    refine ⟨ret_bool ?_, both (grown_alloc _ _) ⟨rfl, rfl, rfl, Nat.le_refl _, fun _ _ _ => rfl⟩⟩
    unfold txtOk
    first
      | (simp_all; done)
      | (simp_all; omega)
/-- What Valid answers at a flat number or text. -/
def flatOk (op n : Int) (s : ByteArray) : Bool := if op = 1 then numOk n s else txtOk n s
theorem node14_flat (op n : Int) (s : ByteArray) (w : World) (h : op = 1 ∨ op = 2) :
    Calls Tryz.prog 107 #[.agg #[.int .i64 op, .int .i64 n, .string s, .slice none 0 0, .slice none 0 0]] w fun e w' => e = .returned (.bool (flatOk op n s)) ∧ w.grownBy w' none := by
  rcases h with rfl | rfl
  · exact node14_int n s w
  · exact node14_txt n s w
theorem nodes14_flat (op n : Int) (s : ByteArray) (w : World) (h : op = 1 ∨ op = 2) :
    Calls Tryz.prog 99 #[.agg #[.int .i64 op, .int .i64 n, .string s, .slice none 0 0, .slice none 0 0]] w fun e w' => e = .returned (.bool (flatOk op n s)) ∧ w.grownBy w' none := by
  have g0 := grown_alloc w (.cells #[.int .i64 op, .int .i64 n, .string s, .slice none 0 0, .slice none 0 0] 48)
  have n0 := heap_alloc_new w (.cells #[.int .i64 op, .int .i64 n, .string s, .slice none 0 0, .slice none 0 0] 48)
  have HN := fun wx => node14_flat op n s wx h
  generalize flatOk op n s = r at *
  cases r
  all_goals
    go_enter Tryz.func99, Tryz.ntmps99
    go_wp2_with (go_at_call 107; refine (HN _).mono ?_; rintro e w2 ⟨rfl, g2⟩; have c4 := cell_of_row _ _ 4 _ _ _ ((g2.block _ (heap_lt n0) (by nofun)).trans n0); simp at c4)
  · go_ret
    exact ⟨rfl, both g0 g2⟩
  · refine wp_loop_rounds 1 ?_
    rw [rounds_succ]
    go_wp2_with fail
    go_ret
    exact ⟨rfl, both g0 g2⟩
theorem valid14_flat (op n : Int) (s : ByteArray) (w : World) (h : op = 1 ∨ op = 2) :
    Calls Tryz.prog 91 #[.agg #[.int .i64 op, .int .i64 n, .string s, .slice none 0 0, .slice none 0 0]] w fun e w' => e = .returned (.bool (flatOk op n s)) ∧ w.grownBy w' none := by
  have g0 := grown_alloc w (.cells #[.int .i64 op, .int .i64 n, .string s, .slice none 0 0, .slice none 0 0] 48)
  have n0 := heap_alloc_new w (.cells #[.int .i64 op, .int .i64 n, .string s, .slice none 0 0, .slice none 0 0] 48)
  have HN := fun wx => nodes14_flat op n s wx h
  have HC := fun wx => count14_flat op n s wx
  generalize flatOk op n s = r at *
  go_enter Tryz.func91, Tryz.ntmps91
  go_wp2_with (first
    | (go_at_call 98; refine (HC _).mono ?_; rintro e w2 ⟨rfl, g2⟩; obtain ⟨c0, c1, c2, c3, c4⟩ := val_cells ((g2.block _ (heap_lt n0) (by nofun)).trans n0))
    | (go_at_call 99; refine (HN _).mono ?_; rintro e w3 ⟨rfl, g3⟩))
  go_ret
  exact ⟨rfl, both (both g0 g2) g3⟩
end Go.Proofs.YtidolpcbbbakmaaGreat
