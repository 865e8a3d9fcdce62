/- Values of the reference of layer 15: unit, truth, stop, number, text. truth of the reference of layer 15. prim of the reference of layer 15: two new rows, filled; what it gives. -/
import Derived.Test.YtidolpcbbbakmaaGreatM7
import Derived.Deep.WholeRow
import Derived.Great.BuildSlice
import Derived.Deep.MidRow
import Derived.Deep.RegionHeld3
namespace Go.Proofs.YtidolpcbbbakmaaGreat
open Go Go.RowKit
/-- The cells of a value without a function. -/
def row15 (op n : Int) (s : ByteArray) (l : Value) : Array Value :=
  #[.int .i64 op, .int .i64 n, .string s, .slice none 0 0, l, .int .i64 0, .int .i64 0, .string ⟨#[]⟩, .int .i64 0, .int .i64 0, .string ⟨#[]⟩, .slice none 0 0, .slice none 0 0, .slice none 0 0, .int .i64 0, .int .i64 0,
    .string ⟨#[]⟩, .slice none 0 0, .slice none 0 0, .slice none 0 0, .slice none 0 0, .slice none 0 0, .slice none 0 0, .slice none 0 0, .bool false]
theorem info15 : (Tryz.prog.info? 149).map (·.size) = some 25 := by kernel_rfl
theorem all_one (l : List Value) (h : l.all (·.oneCell') = true) : l.toArray.all (·.oneCell') = true := by rw [← Array.all_toList]; exact h
theorem unit15_any (w : World) :
    Calls Tryz.prog 106 #[] w fun e w' => e = .returned (.agg (row15 3 0 ⟨#[]⟩ (.slice none 0 0))) ∧ w.grownBy w' none := by
  have hg := grown_alloc w (.cells (row15 3 0 ⟨#[]⟩ (.slice none 0 0)) 149)
  go_enter Tryz.func106, Tryz.ntmps106
  go_wp2_with (refine wpList_store_row rfl 149 _ _ rfl w.heap.size _ rfl rfl 149 _ (heap_alloc_new w _) info15 rfl (all_one _ rfl) ?_)
  rw [World.setRow_alloc_new]
  refine bodyPost_ret (results_cell_row rfl _ _ w.heap.size 149 _ (0, 0) _ rfl (heap_alloc_new w _) Tryz.underlying149 rfl info15) rfl ?_
  exact ⟨rfl, hg⟩
theorem heap_alloc_at {w : World} {k : Nat} (h : w.heap.size = k) (o : Obj) : (w.alloc o).heap[k]? = some o := by subst h; exact heap_alloc_new w o
theorem setRow_alloc_at {w : World} {k : Nat} (h : w.heap.size = k) (c c' : Array Value) (t : TypeId) : (w.alloc (.cells c t)).setRow k c' = w.alloc (.cells c' t) := by subst h; exact World.setRow_alloc_new w c c' t
def nil15 : Array Value := row15 0 0 ⟨#[]⟩ (.slice none 0 0)
def st15 (e n : Int) : Array Value := #[.int .i64 0, .int .i64 0, .slice none 0 0, .int .i64 e, .int .i64 n]
theorem stop15_any (sb : Nat) (e1 n1 : Int) (w : World) (hs : w.heap[sb]? = some (.cells (st15 0 0) 163 (0, 0))) :
    Calls Tryz.prog 102 #[.pointer (some ⟨sb, 0, none⟩), .int .i64 e1, .int .i64 n1] w fun e w' => e = .returned (.agg nil15) ∧ w'.heap[sb]? = some (.cells (st15 e1 n1) 163 (0, 0)) ∧ w.grownBy w' (some sb) := by
  have hlt := heap_lt hs
  have hb : sb ≠ w.heap.size := by omega
  have q3 : w.cell? ⟨sb, 3, none⟩ = some (.int .i64 0) := by simp [World.cell?, hs, st15]
  have q4 : w.cell? ⟨sb, 4, none⟩ = some (.int .i64 0) := by simp [World.cell?, hs, st15]
  have f3 := Lib.frozen_of_heap hs 3
  have f4 := Lib.frozen_of_heap hs 4
  go_enter Tryz.func102, Tryz.ntmps102
  go_wp2_with (refine wpList_store_row rfl 149 _ _ rfl w.heap.size _ rfl rfl 149 _ ?hp info15 rfl (all_one _ rfl) ?_)
  case hp => exact heap_alloc_at (by simp) _
  rw [setRow_alloc_at (by simp)]
  have g1 := both (grown_set w sb 3 (.int .i64 e1)) (grown_set _ sb 4 (.int .i64 n1))
  have h1 := heap_setCell_same w sb 3 _ _ (.int .i64 e1) hs
  have h2 := heap_setCell_same _ sb 4 _ _ (.int .i64 n1) h1
  refine bodyPost_ret (results_cell_row rfl _ _ w.heap.size 149 _ (0, 0) _ rfl (heap_alloc_at (by simp) _) Tryz.underlying149 rfl info15) rfl ?_
  refine ⟨rfl, ?_, both g1 (free_of (grown_alloc _ _) _)⟩
  rw [(grown_alloc _ _).block _ (by simpa using hlt) (by nofun), h2]
  rfl
/-- What an operation of the reference of layer 15 gives. -/
inductive R15
  | fail (c : Int)
  | num (n : Int)
  | txt (s : ByteArray)
  | bool (b : Bool)
def Ans15 (sb : Nat) (r : R15) (w : World) (e : Ending) (w' : World) : Prop :=
  match r with
  | .fail c => e = .returned (.agg nil15) ∧ w'.heap[sb]? = some (.cells (st15 2 c) 163 (0, 0)) ∧ w.grownBy w' (some sb)
  | .num n => e = .returned (.agg (row15 1 n ⟨#[]⟩ (.slice none 0 0))) ∧ w.grownBy w' none
  | .txt s => e = .returned (.agg (row15 2 0 s (.slice none 0 0))) ∧ w.grownBy w' none
  | .bool b => ∃ q r : Nat, e = .returned (.agg (row15 5 0 ⟨#[]⟩ (.slice (some ⟨q, 0, none⟩) 1 1))) ∧ w.heap.size ≤ q ∧ w.heap.size ≤ r ∧ w.grownBy w' none ∧
      w'.heap[q]? = some (.cells (row15 4 0 (if b then ⟨#[84, 114, 117, 101]⟩ else ⟨#[70, 97, 108, 115, 101]⟩) (.slice (some ⟨r, 0, none⟩) 1 1)) 149 (0, 0)) ∧ w'.heap[r]? = some (.cells (row15 3 0 ⟨#[]⟩ (.slice none 0 0)) 149 (0, 0))
def numR (n : Int) : R15 := if 4503599627370496 < n then .fail 2 else if n < -4503599627370496 then .fail 2 else .num n
def textR (s : ByteArray) : R15 := if 16384 < s.size then .fail 2 else .txt s
theorem stop15_at (sb : Nat) (e1 n1 : Int) (w w1 : World) (hw : w1 = w.alloc (.cells nil15 149)) (hs : w.heap[sb]? = some (.cells (st15 0 0) 163 (0, 0))) :
    Calls Tryz.prog 102 #[.pointer (some ⟨sb, 0, none⟩), .int .i64 e1, .int .i64 n1] w1 fun e w' => e = .returned (.agg nil15) ∧ w'.heap[sb]? = some (.cells (st15 e1 n1) 163 (0, 0)) ∧ w.grownBy w' (some sb) ∧ w'.heap[w.heap.size]? = some (.cells nil15 149 (0, 0)) := by
  subst hw
  have hlt := heap_lt hs
  have gz := grown_alloc w (.cells nil15 149)
  refine (stop15_any sb e1 n1 _ ((gz.block _ hlt (by nofun)).trans hs)).mono ?_
  rintro e w' ⟨he, h1, h2⟩
  refine ⟨he, h1, both (free_of gz _) h2, ?_⟩
  have hlt2 : w.heap.size < (w.alloc (.cells nil15 149)).heap.size := heap_lt (heap_alloc_new w _)
  rw [h2.block _ hlt2 (fun e => by injection e with e; omega)]
  exact heap_alloc_new w _
theorem number15_big (sb : Nat) (n : Int) (w : World) (hs : w.heap[sb]? = some (.cells (st15 0 0) 163 (0, 0))) (hn : 4503599627370496 < n ∨ n < -4503599627370496) :
    Calls Tryz.prog 100 #[.pointer (some ⟨sb, 0, none⟩), .int .i64 n] w (Ans15 sb (numR n) w) := by
  have HS := stop15_at sb 2 2 w _ rfl hs
  have hr : numR n = .fail 2 := by
    unfold numR
    repeat' split
    all_goals first | rfl | (exfalso; omega)
  rw [hr]
  go_enter Tryz.func100, Tryz.ntmps100
  go_wp2_with (first
    | (go_at_call 102; refine HS.mono ?_; rintro e w2 ⟨rfl, H1, H2, H3⟩)
    | (refine wpList_store_row rfl 149 _ _ rfl w.heap.size _ rfl rfl 149 _ H3 info15 rfl (all_one _ rfl) ?_))
  all_goals
    rw [Go.setRow_self w2 _ _ _ _ H3]
    exact bodyPost_ret (results_cell_row rfl _ _ w.heap.size 149 _ (0, 0) _ rfl H3 Tryz.underlying149 rfl info15) rfl ⟨rfl, H1, H2⟩
theorem number15_small (sb : Nat) (n : Int) (w : World) (h1 : n ≤ 4503599627370496) (h2 : -4503599627370496 ≤ n) :
    Calls Tryz.prog 100 #[.pointer (some ⟨sb, 0, none⟩), .int .i64 n] w (Ans15 sb (numR n) w) := by
  have hr : numR n = .num n := by
    unfold numR
    rw [if_neg (by omega), if_neg (by omega)]
  rw [hr]
  go_enter Tryz.func100, Tryz.ntmps100
  go_wp2_with (refine wpList_store_row rfl 149 _ _ rfl w.heap.size _ rfl rfl 149 _ (heap_alloc_new w _) info15 rfl (all_one _ rfl) ?_)
  rw [World.setRow_alloc_new]
  exact bodyPost_ret (results_cell_row rfl _ _ w.heap.size 149 _ (0, 0) _ rfl (heap_alloc_new w _) Tryz.underlying149 rfl info15) rfl ⟨rfl, grown_alloc w _⟩
theorem number15_any (sb : Nat) (n : Int) (w : World) (hs : w.heap[sb]? = some (.cells (st15 0 0) 163 (0, 0))) :
    Calls Tryz.prog 100 #[.pointer (some ⟨sb, 0, none⟩), .int .i64 n] w (Ans15 sb (numR n) w) := by
  by_cases h : 4503599627370496 < n ∨ n < -4503599627370496
  · exact number15_big sb n w hs h
  · exact number15_small sb n w (by omega) (by omega)
theorem text15_big (sb : Nat) (s : ByteArray) (w : World) (hs : w.heap[sb]? = some (.cells (st15 0 0) 163 (0, 0))) (hn : (16384 : Int) < (s.size : Int)) :
    Calls Tryz.prog 104 #[.pointer (some ⟨sb, 0, none⟩), .string s] w (Ans15 sb (textR s) w) := by
  have HS := stop15_at sb 2 2 w _ rfl hs
  have hr : textR s = .fail 2 := by
    unfold textR
    rw [if_pos (by omega)]
  rw [hr]
  go_enter Tryz.func104, Tryz.ntmps104
  go_wp2_with (first
    | (go_at_call 102; refine HS.mono ?_; rintro e w2 ⟨rfl, H1, H2, H3⟩)
    | (refine wpList_store_row rfl 149 _ _ rfl w.heap.size _ rfl rfl 149 _ H3 info15 rfl (all_one _ rfl) ?_))
  all_goals
    rw [Go.setRow_self w2 _ _ _ _ H3]
    exact bodyPost_ret (results_cell_row rfl _ _ w.heap.size 149 _ (0, 0) _ rfl H3 Tryz.underlying149 rfl info15) rfl ⟨rfl, H1, H2⟩
theorem text15_small (sb : Nat) (s : ByteArray) (w : World) (hn : (s.size : Int) ≤ 16384) :
    Calls Tryz.prog 104 #[.pointer (some ⟨sb, 0, none⟩), .string s] w (Ans15 sb (textR s) w) := by
  have hr : textR s = .txt s := by
    unfold textR
    rw [if_neg (by omega)]
  rw [hr]
  go_enter Tryz.func104, Tryz.ntmps104
  go_wp2_with (refine wpList_store_row rfl 149 _ _ rfl w.heap.size _ rfl rfl 149 _ (heap_alloc_new w _) info15 rfl (all_one _ rfl) ?_)
  rw [World.setRow_alloc_new]
  exact bodyPost_ret (results_cell_row rfl _ _ w.heap.size 149 _ (0, 0) _ rfl (heap_alloc_new w _) Tryz.underlying149 rfl info15) rfl ⟨rfl, grown_alloc w _⟩
theorem text15_any (sb : Nat) (s : ByteArray) (w : World) (hs : w.heap[sb]? = some (.cells (st15 0 0) 163 (0, 0))) :
    Calls Tryz.prog 104 #[.pointer (some ⟨sb, 0, none⟩), .string s] w (Ans15 sb (textR s) w) := by
  by_cases h : (16384 : Int) < (s.size : Int)
  · exact text15_big sb s w hs h
  · exact text15_small sb s w (by omega)
theorem info15z : (Tryz.prog.info? 149).map (fun i => (i.size, i.zero.map (·.cells.size))) = some (25, some 25) := by kernel_rfl
/-- A list of one value. -/
theorem one15 {ops : Array Oper} {rest : List Oper} {o : Oper} {a : Act} {w : World} {Q : Exit → Act → World → Prop} (hg : o.guard = none) (x : Operand) (ho : o.op = .buildSlice 138 1 #[(0, x)])
    (cs : Array Value) (hx : a.eval x = .agg cs) (hc : cs.size = 25)
    (h : wpList Tryz.prog ops Q rest (a.put o.dst (.slice (some ⟨w.heap.size, 0, none⟩) 1 1)) (w.alloc (.cells cs 149))) : wpList Tryz.prog ops Q (o :: rest) a w := by
  have hz := info15z
  cases hq : Tryz.prog.info? 149 with
  | none => rw [hq] at hz; simp at hz
  | some ie =>
    rw [hq] at hz
    simp only [Option.map_some, Option.some.injEq, Prod.mk.injEq] at hz
    obtain ⟨h1, h2⟩ := hz
    cases hzz : ie.zero with
    | none => rw [hzz] at h2; simp at h2
    | some z =>
      refine wpList_buildSlice hg _ _ 1 _ ho cs ie z Tryz.underlying138 hq hzz (by rw [h1]; decide) (by rw [h1]; decide) ?_ h
      have e : (Array.map (fun (x : Nat × Operand) => match x with | (i, x) => (i, a.eval x)) #[(0, x)]).toList = (([Value.agg cs].zipIdx 0).map fun x => (x.2, x.1)) := by
        simp [hx]
      rw [e, Great.fill_whole (by rw [h1]; decide) [Value.agg cs] _ (by simp [Value.cells, hc, h1]) (by simp)]
      simp [Value.cells]
theorem grown_setRow {w w1 : World} (h : w.grownBy w1 none) {b : Nat} (hb : w.heap.size ≤ b) (cs : Array Value) : w.grownBy (w1.setRow b cs) none :=
  ⟨h.os, h.tape, h.output, by rw [setRow_size]; exact h.size, fun q hq _ => (setRow_other w1 b q cs (by omega)).trans (h.block q hq (by nofun))⟩
theorem truth_end (b : Bool) (sb : Nat) (w w2 : World) (s : ByteArray) (hs : s = if b then ⟨#[84, 114, 117, 101]⟩ else ⟨#[70, 97, 108, 115, 101]⟩) (H2 : (w.alloc (.cells nil15 149)).grownBy w2 none) :
    (((w2.alloc (.cells (row15 3 0 ⟨#[]⟩ (.slice none 0 0)) 149)).alloc (.cells (row15 4 0 s (.slice (some ⟨w2.heap.size, 0, none⟩) 1 1)) 149)).heap[w.heap.size]? = some (.cells nil15 149 (0, 0))) ∧
    Ans15 sb (.bool b) w (.returned (.agg (row15 5 0 ⟨#[]⟩ (.slice (some ⟨w2.heap.size + 1, 0, none⟩) 1 1)))) (((w2.alloc (.cells (row15 3 0 ⟨#[]⟩ (.slice none 0 0)) 149)).alloc (.cells (row15 4 0 s (.slice (some ⟨w2.heap.size, 0, none⟩) 1 1)) 149)).setRow w.heap.size (row15 5 0 ⟨#[]⟩ (.slice (some ⟨w2.heap.size + 1, 0, none⟩) 1 1))) := by
  have g0 := grown_alloc w (.cells nil15 149)
  have hz := heap_alloc_new w (.cells nil15 149)
  have hlt : w.heap.size < (w.alloc (.cells nil15 149)).heap.size := heap_lt hz
  have hlt2 : w.heap.size < w2.heap.size := Nat.lt_of_lt_of_le hlt H2.size
  have g1 := grown_alloc w2 (.cells (row15 3 0 ⟨#[]⟩ (.slice none 0 0)) 149)
  have n1 := heap_alloc_new w2 (.cells (row15 3 0 ⟨#[]⟩ (.slice none 0 0)) 149)
  have e1 : (w2.alloc (.cells (row15 3 0 ⟨#[]⟩ (.slice none 0 0)) 149)).heap.size = w2.heap.size + 1 := by simp
  generalize w2.alloc (.cells (row15 3 0 ⟨#[]⟩ (.slice none 0 0)) 149) = w3 at *
  have g2 := grown_alloc w3 (.cells (row15 4 0 s (.slice (some ⟨w2.heap.size, 0, none⟩) 1 1)) 149)
  have n2 := heap_alloc_new w3 (.cells (row15 4 0 s (.slice (some ⟨w2.heap.size, 0, none⟩) 1 1)) 149)
  generalize w3.alloc (.cells (row15 4 0 s (.slice (some ⟨w2.heap.size, 0, none⟩) 1 1)) 149) = w4 at *
  have g4 := both g1 g2
  have hb : w4.heap[w.heap.size]? = some (.cells nil15 149 (0, 0)) := (g4.block _ hlt2 (by nofun)).trans ((H2.block _ hlt (by nofun)).trans hz)
  refine ⟨hb, w2.heap.size + 1, w2.heap.size, rfl, by omega, by omega, grown_setRow (both g0 (both H2 g4)) (Nat.le_refl _) _, ?_, ?_⟩
  · rw [setRow_other _ _ _ _ (by omega), ← e1, n2, hs]
  · rw [setRow_other _ _ _ _ (by omega), g2.block _ (by omega) (by nofun), n1]
theorem truth15_any (b : Bool) (sb : Nat) (w : World) :
    Calls Tryz.prog 103 #[.bool b] w (Ans15 sb (.bool b) w) := by
  have HU := fun wx => unit15_any wx
  go_enter Tryz.func103, Tryz.ntmps103
  cases b
  · go_wp2_with (first
      | (go_at_call 106; refine (HU _).mono ?_; rintro e w2 ⟨rfl, H2⟩; have HE := Lib.hid (truth_end false sb w w2 _ rfl H2))
      | (refine one15 rfl _ rfl _ rfl rfl ?_)
      | (refine wpList_store_row rfl 149 _ _ rfl w.heap.size _ rfl rfl 149 nil15 HE.out.1 info15 rfl (all_one _ rfl) ?_))
    exact bodyPost_ret (results_cell_row rfl _ _ w.heap.size 149 _ (0, 0) _ rfl (setRow_heap _ _ _ _ _ _ HE.out.1) Tryz.underlying149 rfl info15) rfl HE.out.2
  · go_wp2_with (first
      | (go_at_call 106; refine (HU _).mono ?_; rintro e w2 ⟨rfl, H2⟩; have HE := Lib.hid (truth_end true sb w w2 _ rfl H2))
      | (refine one15 rfl _ rfl _ rfl rfl ?_)
      | (refine wpList_store_row rfl 149 _ _ rfl w.heap.size _ rfl rfl 149 nil15 HE.out.1 info15 rfl (all_one _ rfl) ?_))
    exact bodyPost_ret (results_cell_row rfl _ _ w.heap.size 149 _ (0, 0) _ rfl (setRow_heap _ _ _ _ _ _ HE.out.1) Tryz.underlying149 rfl info15) rfl HE.out.2
theorem grown_setRow1 {w w1 : World} {x : Option Nat} (h : w.grownBy w1 x) {b : Nat} (hb : w.heap.size ≤ b) (cs : Array Value) : w.grownBy (w1.setRow b cs) x :=
  ⟨h.os, h.tape, h.output, by rw [setRow_size]; exact h.size, fun q hq hx => (setRow_other w1 b q cs (by omega)).trans (h.block q hq hx)⟩
/-- The answer, laid into the result's cell. -/
theorem ans_end {sb : Nat} {r : R15} {w wx : World} {e : Ending} {w2 : World} (h : Ans15 sb r wx e w2) (gx : (w.alloc (.cells nil15 149)).grownBy wx none) (hsb : sb < w.heap.size) :
    ∃ cs : Array Value, e = .returned (.agg cs) ∧ cs.size = 25 ∧ cs.all (·.oneCell') = true ∧ w2.heap[w.heap.size]? = some (.cells nil15 149 (0, 0)) ∧ Ans15 sb r w (.returned (.agg cs)) (w2.setRow w.heap.size cs) := by
  have g0 := grown_alloc w (.cells nil15 149)
  have hz := heap_alloc_new w (.cells nil15 149)
  have hlt : w.heap.size < (w.alloc (.cells nil15 149)).heap.size := heap_lt hz
  have hx : wx.heap[w.heap.size]? = some (.cells nil15 149 (0, 0)) := (gx.block _ hlt (by nofun)).trans hz
  have hlx : w.heap.size < wx.heap.size := heap_lt hx
  have gw := both g0 gx
  cases r with
  | fail c =>
    obtain ⟨he, h1, h2⟩ := h
    refine ⟨nil15, he, rfl, all_one _ rfl, (h2.block _ hlx (fun e => by injection e with e; omega)).trans hx, rfl, ?_, grown_setRow1 (both (free_of gw _) h2) (Nat.le_refl _) _⟩
    rw [setRow_other _ _ _ _ (by omega)]
    exact h1
  | num n =>
    obtain ⟨he, h2⟩ := h
    exact ⟨_, he, rfl, all_one _ rfl, (h2.block _ hlx (by nofun)).trans hx, rfl, grown_setRow1 (both gw h2) (Nat.le_refl _) _⟩
  | txt s =>
    obtain ⟨he, h2⟩ := h
    exact ⟨_, he, rfl, all_one _ rfl, (h2.block _ hlx (by nofun)).trans hx, rfl, grown_setRow1 (both gw h2) (Nat.le_refl _) _⟩
  | bool b =>
    obtain ⟨q, r, he, hq, hr, h2, h3, h4⟩ := h
    refine ⟨_, he, rfl, all_one _ rfl, (h2.block _ hlx (by nofun)).trans hx, q, r, rfl, by omega, by omega, grown_setRow1 (both gw h2) (Nat.le_refl _) _, ?_, ?_⟩
    · rw [setRow_other _ _ _ _ (by omega)]; exact h3
    · rw [setRow_other _ _ _ _ (by omega)]; exact h4
def flat15 (op n : Int) (s : ByteArray) : List Value := (row15 op n s (.slice none 0 0)).toList
theorem step_store {P : Program} {ops : Array Oper} {o : Oper} {a : Act} {w : World} {K : Act → World → Prop} {Q : Exit → Act → World → Prop} {E : Prop}
    (hg : o.guard = none) (ty : TypeId) (x y : Operand) (ho : o.op = .store ty x y) (g : Nat) (cells : Array Value) (hx : a.eval x = .pointer (some ⟨g, 0, none⟩)) (hy : a.eval y = .agg cells)
    (t : TypeId) (old : Array Value) (h0 : w.heap[g]? = some (.cells old t (0, 0))) (hi : (P.info? ty).map (·.size) = some cells.size) (hold : old.size = cells.size) (h1 : cells.all (·.oneCell') = true)
    (h : K (a.put o.dst undef) (w.setRow g cells)) : if Region.wanted o (yielded ops a.tmps) = true then Oper.wp P o a w K Q else E := by
  have hw : Region.wanted o (yielded ops a.tmps) = true := by simp [Region.wanted, hg]
  rw [if_pos hw]
  exact wp_store_row ty x y ho g cells hx hy t old h0 hi hold h1 h
theorem grown_drew (w : World) : w.grownBy w.drew none := ⟨rfl, rfl, rfl, Nat.le_refl _, fun _ _ _ => rfl⟩
theorem rangeAt_setRow {w : World} {b o g : Nat} {cs : List Value} (h : w.rangeAt b o cs) (ne : b ≠ g) (new : Array Value) : (w.setRow g new).rangeAt b o cs := fun j v hv => (cell_setRow_other w g new ⟨b, o + j, none⟩ ne).trans (h j v hv)
/-- Two new rows, filled. -/
theorem two_rows (W : World) (p q : Nat) (hp : (p = W.heap.size ∧ q = W.heap.size + 1) ∨ (q = W.heap.size ∧ p = W.heap.size + 1)) (A B : Array Value) (t : TypeId) :
    ((W.alloc (.cells nil15 t)).alloc (.cells nil15 t)).heap[p]? = some (.cells nil15 t (0, 0)) ∧ (((W.alloc (.cells nil15 t)).alloc (.cells nil15 t)).setRow p A).heap[q]? = some (.cells nil15 t (0, 0)) ∧
    ((((W.alloc (.cells nil15 t)).alloc (.cells nil15 t)).setRow p A).setRow q B).heap[p]? = some (.cells A t (0, 0)) ∧ ((((W.alloc (.cells nil15 t)).alloc (.cells nil15 t)).setRow p A).setRow q B).heap[q]? = some (.cells B t (0, 0)) ∧
    W.grownBy ((((W.alloc (.cells nil15 t)).alloc (.cells nil15 t)).setRow p A).setRow q B) none := by
  have n0 := heap_alloc_new W (.cells nil15 t)
  have g0 := grown_alloc W (.cells nil15 t)
  have e0 : (W.alloc (.cells nil15 t)).heap.size = W.heap.size + 1 := by simp
  generalize W.alloc (.cells nil15 t) = W1 at *
  have n1 := heap_alloc_new W1 (.cells nil15 t)
  have g1 := grown_alloc W1 (.cells nil15 t)
  generalize W1.alloc (.cells nil15 t) = W2 at *
  have o0 : W2.heap[W.heap.size]? = some (.cells nil15 t (0, 0)) := (g1.block _ (by omega) (by nofun)).trans n0
  have o1 : W2.heap[W.heap.size + 1]? = some (.cells nil15 t (0, 0)) := by rw [← e0]; exact n1
  have hP : W2.heap[p]? = some (.cells nil15 t (0, 0)) := by
    rcases hp with ⟨e, _⟩ | ⟨_, e⟩ <;> rw [e] <;> assumption
  have hQ : W2.heap[q]? = some (.cells nil15 t (0, 0)) := by
    rcases hp with ⟨_, e⟩ | ⟨e, _⟩ <;> rw [e] <;> assumption
  have ne : q ≠ p := by omega
  have hQ2 : (W2.setRow p A).heap[q]? = some (.cells nil15 t (0, 0)) := (setRow_other W2 p q A ne).trans hQ
  refine ⟨hP, hQ2, ?_, setRow_heap _ _ _ _ _ _ hQ2, grown_setRow (grown_setRow (both g0 g1) (by omega) _) (by omega) _⟩
  rw [setRow_other _ _ _ _ ne.symm]
  exact setRow_heap _ _ _ _ _ _ hP
/-- What prim gives; sh: the first number in decimal. -/
def primR (n na nb : Int) (sa sB sh : ByteArray) : R15 :=
  if n = 1 then numR (na + nb) else if n = 2 then numR (na - nb) else if n = 3 then numR (timesP na nb)
  else if n = 4 then (if nb = 0 then .fail 3 else numR (wrap64 (Int.tdiv na nb))) else if n = 5 then (if nb = 0 then .fail 3 else numR (Int.tmod na nb))
  else if n = 6 then numR (-na) else if n = 7 then .bool (decide (na < nb)) else if n = 8 then .bool (decide (na ≤ nb)) else if n = 9 then .bool (na == nb)
  else if n = 10 then textR (sa ++ sB) else if n = 11 then numR sa.size else if n = 12 then .bool (sa.toList == sB.toList) else textR sh
theorem primR_1 (na nb : Int) (sa sB sh : ByteArray) : primR 1 na nb sa sB sh = numR (na + nb) := by
  unfold primR
  rw [if_pos rfl]
theorem primR_2 (na nb : Int) (sa sB sh : ByteArray) : primR 2 na nb sa sB sh = numR (na - nb) := by
  unfold primR
  rw [if_neg (by decide), if_pos rfl]
theorem primR_3 (na nb : Int) (sa sB sh : ByteArray) : primR 3 na nb sa sB sh = numR (timesP na nb) := by
  unfold primR
  rw [if_neg (by decide), if_neg (by decide), if_pos rfl]
theorem primR_6 (na nb : Int) (sa sB sh : ByteArray) : primR 6 na nb sa sB sh = numR (-na) := by
  unfold primR
  rw [if_neg (by decide), if_neg (by decide), if_neg (by decide), if_neg (by decide), if_neg (by decide), if_pos rfl]
theorem primR_10 (na nb : Int) (sa sB sh : ByteArray) : primR 10 na nb sa sB sh = textR (sa ++ sB) := by
  unfold primR
  rw [if_neg (by decide), if_neg (by decide), if_neg (by decide), if_neg (by decide), if_neg (by decide), if_neg (by decide), if_neg (by decide), if_neg (by decide), if_neg (by decide), if_pos rfl]
theorem primR_11 (na nb : Int) (sa sB sh : ByteArray) : primR 11 na nb sa sB sh = numR sa.size := by
  unfold primR
  rw [if_neg (by decide), if_neg (by decide), if_neg (by decide), if_neg (by decide), if_neg (by decide), if_neg (by decide), if_neg (by decide), if_neg (by decide), if_neg (by decide), if_neg (by decide), if_pos rfl]
theorem primR_13 (na nb : Int) (sa sB sh : ByteArray) : primR 13 na nb sa sB sh = textR sh := by
  unfold primR
  rw [if_neg (by decide), if_neg (by decide), if_neg (by decide), if_neg (by decide), if_neg (by decide), if_neg (by decide), if_neg (by decide), if_neg (by decide), if_neg (by decide), if_neg (by decide), if_neg (by decide), if_neg (by decide)]
end Go.Proofs.YtidolpcbbbakmaaGreat
