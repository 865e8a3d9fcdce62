/- The example of law 47: the writer. The example of law 47: its code. The example of law 47: compile.Fun. -/
import Derived.Test.YtidolpcbbbakmaaGreatM12
import Derived.Deep.AppendLies
import Derived.Laws.ResultCell
namespace Go.Proofs.YtidolpcbbbakmaaGreat
open Go Go.RowKit

theorem info_instr : (Tryz.prog.info? 57).map (fun i => (i.zero, i.size, i.bytes)) = some (some (.agg #[.int .i64 0, .int .i64 0, .int .i64 0]), 3, 24) := by kernel_rfl
theorem insCells_app (is : List Ins) (i : Ins) : insCells (is ++ [i]) = insCells is ++ [.int .i64 i.op, .int .i64 i.a, .int .i64 i.b] := by simp [insCells]
theorem owns_lt {V : World} {B : Nat} {e : TypeId} {s n : Nat} {v : Value} {xs : List Value} (h : V.ownsRow B e s v n xs) (g : Nat) (hg : v.ownBlock = some g) : B ≤ g ∧ g < V.heap.size := by
  obtain ⟨_, h2⟩ := h
  rcases h2 with ⟨rfl, _⟩ | ⟨g', cap, cur, rfl, hb, hh, _⟩
  · cases hg
  · cases hg; exact ⟨hb, heap_lt hh⟩
theorem owns_grown {V V' : World} {B : Nat} {e : TypeId} {s n : Nat} {v : Value} {xs : List Value} {r : Option Nat} (h : V.ownsRow B e s v n xs) (hg : V.grownBy V' r) (hr : ∀ k, r = some k → v.ownBlock ≠ some k) : V'.ownsRow B e s v n xs := by
  obtain ⟨h1, h2⟩ := h
  refine ⟨h1, ?_⟩
  rcases h2 with h2 | ⟨g, cap, cur, rfl, hb, hh, hrest⟩
  · exact .inl h2
  · exact .inr ⟨g, cap, cur, rfl, hb, (hg.block g (heap_lt hh) (fun e => hr g e.symm rfl)).trans hh, hrest⟩
theorem owns_slice {V : World} {B : Nat} {e : TypeId} {s n : Nat} {v : Value} {xs : List Value} (h : V.ownsRow B e s v n xs) : ∃ a m c, v = .slice a m c := by
  obtain ⟨_, h2⟩ := h
  rcases h2 with ⟨rfl, _⟩ | ⟨g, cap, cur, rfl, _⟩
  · exact ⟨_, _, _, rfl⟩
  · exact ⟨_, _, _, rfl⟩
/-- The writer at wb holds this code. -/
structure WSt (V : World) (wb mb B : Nat) (cv : Value) (L : List Ins) : Prop where
  blk : V.heap[wb]? = some (.cells #[cv, .map (some mb)] 102 (0, 0))
  own : V.ownsRow B 57 3 cv L.length (insCells L)
  lt : wb < B
/-- All blocks but the writer's and its code's are as they were. -/
structure Em (wb : Nat) (V V' : World) (r r' : Option Nat) : Prop where
  os : V'.os = V.os
  tape : V'.tape = V.tape
  output : V'.output = V.output
  size : V.heap.size ≤ V'.heap.size
  kept : ∀ k, k < V.heap.size → k ≠ wb → r ≠ some k → V'.heap[k]? = V.heap[k]?
  own : r' = r ∨ ∃ g, r' = some g ∧ V.heap.size ≤ g
theorem Em.refl (wb : Nat) (V : World) (r : Option Nat) : Em wb V V r r := ⟨rfl, rfl, rfl, Nat.le_refl _, fun _ _ _ _ => rfl, .inl rfl⟩
theorem Em.trans {wb : Nat} {a b c : World} {r s t : Option Nat} (h : Em wb a b r s) (k : Em wb b c s t) : Em wb a c r t := by
  refine ⟨k.os.trans h.os, k.tape.trans h.tape, k.output.trans h.output, Nat.le_trans h.size k.size, fun q hq hw hr => ?_, ?_⟩
  · have hs : s ≠ some q := by
      rcases h.own with e | ⟨g, e, hg⟩
      · rw [e]; exact hr
      · rw [e]; intro e2; cases e2; omega
    exact (k.kept q (Nat.lt_of_lt_of_le hq h.size) hw hs).trans (h.kept q hq hw hr)
  · rcases k.own with e | ⟨g, e, hg⟩
    · rw [e]; exact h.own
    · exact .inr ⟨g, e, Nat.le_trans h.size hg⟩
theorem Em.grown {wb : Nat} {V V' : World} {r r' : Option Nat} (h : V.grownBy V' r) (ho : r' = r ∨ ∃ g, r' = some g ∧ V.heap.size ≤ g) : Em wb V V' r r' :=
  ⟨h.os, h.tape, h.output, h.size, fun k hk _ hr => h.block k hk (Ne.symm hr), ho⟩
theorem Em.free {wb : Nat} {V V' : World} {r : Option Nat} (h : V.grownBy V' none) : Em wb V V' r r :=
  ⟨h.os, h.tape, h.output, h.size, fun k hk _ _ => h.block k hk (by nofun), .inl rfl⟩
theorem Em.set {wb : Nat} (V : World) (o : Nat) (u : Value) (r : Option Nat) : Em wb V (V.setCell ⟨wb, o, none⟩ u) r r := by
  have h := grown_set V wb o u
  exact ⟨h.os, h.tape, h.output, h.size, fun k hk hw _ => h.block k hk (fun e => hw (Option.some.inj e)), .inl rfl⟩
theorem Em.below {wb B : Nat} {V V' : World} {r r' : Option Nat} (h : Em wb V V' r r') (hB : B ≤ wb) (hwb : wb < V.heap.size) (hr : ∀ k, r = some k → wb ≤ k) : Below B V V' :=
  ⟨h.os, h.tape, h.output, h.size, fun k hk => h.kept k (by omega) (by omega) (fun e => by have := hr k e; omega)⟩
theorem WSt.free {V V' : World} {wb mb B : Nat} {cv : Value} {L : List Ins} (h : WSt V wb mb B cv L) (hg : V.grownBy V' none) : WSt V' wb mb B cv L :=
  ⟨(hg.block wb (heap_lt h.blk) (by nofun)).trans h.blk, owns_grown h.own hg (by nofun), h.lt⟩
theorem w_cells {w : World} {q : Nat} {x y : Value} {t : TypeId} (h : w.heap[q]? = some (.cells #[x, y] t (0, 0))) : w.cell? ⟨q, 0, none⟩ = some x ∧ w.cell? ⟨q, 1, none⟩ = some y := by
  simp [World.cell?, h]
def WrOk (wb mb B : Nat) (cv : Value) (L : List Ins) (V V' : World) : Prop := ∃ cv', WSt V' wb mb B cv' L ∧ Em wb V V' cv.ownBlock cv'.ownBlock
set_option maxHeartbeats 1000000 in
set_option maxRecDepth 100000 in
theorem emit_any (wb mb B : Nat) (cv : Value) (L : List Ins) (op a b : Int) (V : World) (h : WSt V wb mb B cv L) (hB : B ≤ V.heap.size) (hL : L.length ≤ 1000) :
    Calls Tryz.prog 51 #[.pointer (some ⟨wb, 0, none⟩), .int .i64 op, .int .i64 a, .int .i64 b] V fun e V' => (∃ r, e = .returned (.int .i64 r)) ∧ WrOk wb mb B cv (L ++ [⟨op, a, b⟩]) V V' := by
  have H := Lib.hid h
  obtain ⟨ca, cn, cc, rfl⟩ := owns_slice h.own
  obtain ⟨ii0, hii, hiz0, hiz1, hiz2⟩ := info_parts info_instr
  obtain ⟨c0, c1⟩ := w_cells h.blk
  have hwlt := h.lt
  clear h
  go_enter Tryz.func51, Tryz.ntmps51
  go_wp2_with (at_builtin; refine wpList_append_lies _ rfl _ _ 41 rfl B 57 ii0 (.agg #[.int .i64 0, .int .i64 0, .int .i64 0]) 3 24 Tryz.underlying41 hii hiz0 hiz1 hiz2 rfl (by decide) _ L.length (insCells L) rfl (H.out.own.alloc _) ⟨V.heap.size, 0, none⟩ 1 1 [.int .i64 op, .int .i64 a, .int .i64 b] rfl rfl ?c1 ?c2 (by decide) ?c3 ?c4 ?c5 _ rfl ?_)
  case c1 => exact World.news_of_block (cs := #[.int .i64 op, .int .i64 a, .int .i64 b]) (new_heap V _)
  case c2 => intro u hu; simp at hu; rcases hu with rfl | rfl | rfl <;> rfl
  case c3 => unfold maxLen; omega
  case c4 => omega
  case c5 => simp; omega
  intro g cap w4 hown4 hgrow4 hat4 hlt4
  have hg3 := grown_alloc V (.cells #[.int .i64 op, .int .i64 a, .int .i64 b] 57)
  have hown0 := owns_lt H.out.own
  have hlt0 := heap_lt H.out.blk
  have gW := (hgrow4.block wb (by simp; omega) (fun e => by have := (hown0 wb e.symm).1; omega)).trans ((hg3.block wb hlt0 (by nofun)).trans H.out.blk)
  obtain ⟨d0, d1⟩ := w_cells gW
  have fz : w4.frozen? ⟨wb, 0, none⟩ = false := Lib.frozen_of_heap gW 0
  have hE := ((Em.free (wb := wb) (r := (Value.slice ca cn cc).ownBlock) hg3).trans (Em.grown hgrow4 (r' := some g) (by
    rcases hat4 with e | e
    · exact .inl e.symm
    · exact .inr ⟨g, rfl, by simp; omega⟩))).trans (Em.set w4 0 (.slice (some ⟨g, 0, none⟩) (L.length + 1) cap) (some g))
  have gW2 := heap_set_same (i := 0) gW (.slice (some ⟨g, 0, none⟩) (L.length + 1) cap)
  have hown5 : w4.ownsRow B 57 3 (.slice (some ⟨g, 0, none⟩) (L.length + 1) cap) (L ++ [(⟨op, a, b⟩ : Ins)]).length (insCells (L ++ [(⟨op, a, b⟩ : Ins)])) := by rw [insCells_app, List.length_append]; exact hown4
  have hown6 := owns_grown hown5 (grown_set w4 wb 0 (.slice (some ⟨g, 0, none⟩) (L.length + 1) cap)) (fun k hk e => by cases hk; have := (owns_lt hown5 _ e).1; omega)
  have HR : Hid (WrOk wb mb B (.slice ca cn cc) (L ++ [⟨op, a, b⟩]) V (w4.setCell ⟨wb, 0, none⟩ (.slice (some ⟨g, 0, none⟩) (L.length + 1) cap))) := ⟨_, ⟨gW2, hown6, hwlt⟩, hE⟩
  have s0 := (w_cells gW2).1
  clear hE hown4 hown5 hown6 hgrow4 hat4 hg3 hown0 gW c0 c1
  go_wp2_with fail
  go_ret
  exact ⟨⟨_, rfl⟩, HR.out⟩
set_option maxHeartbeats 1000000 in
set_option maxRecDepth 100000 in
theorem exp_local (wb mb B : Nat) (cv : Value) (L : List Ins) (V : World) (h : WSt V wb mb B cv L) (hB : B ≤ V.heap.size) (hL : L.length ≤ 1000) :
    Calls Tryz.prog 50 #[.pointer (some ⟨wb, 0, none⟩), leafV 21 0, .int .i64 1] V fun e V' => e = .returned (.tuple #[]) ∧ WrOk wb mb B cv (L ++ [⟨3, 0, 0⟩]) V V' := by
  unfold leafV
  have hg := grown_alloc V (.cells #[.int .i64 21, .int .i64 0, .string ⟨#[]⟩, .slice none 0 0] 29)
  have h2 := h.free hg
  have hE1 := Em.free (wb := wb) (r := cv.ownBlock) hg
  have hB2 : B ≤ (V.alloc (.cells #[.int .i64 21, .int .i64 0, .string ⟨#[]⟩, .slice none 0 0] 29)).heap.size := by simp; omega
  go_enter Tryz.func50, Tryz.ntmps50
  go_wp2_with fail
  refine (emit_any wb mb B cv L _ _ _ _ h2 hB2 hL).mono ?_
  rintro e V2 ⟨⟨r, rfl⟩, cv', hW, hE⟩
  have HR : Hid (WrOk wb mb B cv (L ++ [⟨3, 0, 0⟩]) V V2) := ⟨cv', hW, hE1.trans hE⟩
  clear hW hE hE1
  go_wp2_with fail
  go_end0
  exact ⟨rfl, HR.out⟩
set_option maxHeartbeats 1000000 in
set_option maxRecDepth 100000 in
theorem exp_int (wb mb B : Nat) (cv : Value) (L : List Ins) (V : World) (h : WSt V wb mb B cv L) (hB : B ≤ V.heap.size) (hL : L.length ≤ 1000) :
    Calls Tryz.prog 50 #[.pointer (some ⟨wb, 0, none⟩), leafV 2 1, .int .i64 1] V fun e V' => e = .returned (.tuple #[]) ∧ WrOk wb mb B cv (L ++ [⟨1, 1, 0⟩]) V V' := by
  unfold leafV
  have hg := grown_alloc V (.cells #[.int .i64 2, .int .i64 1, .string ⟨#[]⟩, .slice none 0 0] 29)
  have h2 := h.free hg
  have hE1 := Em.free (wb := wb) (r := cv.ownBlock) hg
  have hB2 : B ≤ (V.alloc (.cells #[.int .i64 2, .int .i64 1, .string ⟨#[]⟩, .slice none 0 0] 29)).heap.size := by simp; omega
  go_enter Tryz.func50, Tryz.ntmps50
  go_wp2_with fail
  refine (emit_any wb mb B cv L _ _ _ _ h2 hB2 hL).mono ?_
  rintro e V2 ⟨⟨r, rfl⟩, cv', hW, hE⟩
  have HR : Hid (WrOk wb mb B cv (L ++ [⟨1, 1, 0⟩]) V V2) := ⟨cv', hW, hE1.trans hE⟩
  clear hW hE hE1
  go_wp2_with fail
  go_end0
  exact ⟨rfl, HR.out⟩

set_option maxHeartbeats 1000000 in
set_option maxRecDepth 100000 in
theorem all_any (wb mb B B0 : Nat) (cv : Value) (V : World) (h : WSt V wb mb B cv []) (hB : B ≤ V.heap.size) (hN : NodeAt V B0) (h0 : B0 < wb) :
    Calls Tryz.prog 77 #[.pointer (some ⟨wb, 0, none⟩), .slice (some ⟨B0, 0, none⟩) 2 2, .int .i64 1] V fun e V' => e = .returned (.tuple #[]) ∧ WrOk wb mb B cv [⟨3, 0, 0⟩, ⟨1, 1, 0⟩] V V' := by
  have H0 := Lib.hid h
  have HE0 := Lib.hid (Em.refl wb V cv.ownBlock)
  clear h
  go_enter Tryz.func77, Tryz.ntmps77
  go_wp2_with fail
  go_loopw [10] (fun i wr => ∃ (k : Nat) (cv' : Value), i = .int .i64 k ∧ k ≤ 2 ∧ Hid (WSt wr wb mb B cv' ([(⟨3, 0, 0⟩ : Ins), ⟨1, 1, 0⟩].take k)) ∧ Hid (Em wb V wr cv.ownBlock cv'.ownBlock)) (fun i _ => 2 - (intOf i).toNat)
  case atStart => exact ⟨0, cv, rfl, by decide, H0, HE0⟩
  case round =>
    obtain ⟨k, cv', rfl, hk, HW, HE⟩ := hrel
    have hsz := HE.out.size
    have hc := owns_lt H0.out.own
    have hlt0 := heap_lt hN
    have hN2 : NodeAt wr B0 := (HE.out.kept B0 hlt0 (by omega) (fun e => by have := (hc B0 e).1; have := H0.out.lt; omega)).trans hN
    obtain ⟨c0, c1, c2, c3, c4, c5, c6, c7⟩ := hN2.cells
    rcases (by omega : k = 0 ∨ k = 1 ∨ k = 2) with rfl | rfl | rfl
    · have gL3 := new_heap wr (.cells #[.int .i64 21, .int .i64 0, .string ⟨#[]⟩, .slice none 0 0] 29)
      obtain ⟨l0, l1, l2, l3⟩ := box_cells gL3
      have hg := grown_alloc wr (.cells #[.int .i64 21, .int .i64 0, .string ⟨#[]⟩, .slice none 0 0] 29)
      have hW2 := HW.out.free hg
      have hE2 := HE.out.trans (Em.free (wb := wb) (r := cv'.ownBlock) hg)
      have hX := Lib.hid (exp_local wb mb B cv' [] _ hW2 (by simp; omega) (by simp))
      clear hW2 gL3 hg
      go_wp2_with fail
      refine hX.out.mono ?_
      rintro e w2 ⟨rfl, cv2, hW3, hE3⟩
      have HW3 := Lib.hid hW3
      have HE3 := Lib.hid (hE2.trans hE3)
      clear hE2 hW3 hE3 hX c0 c1 c2 c3 c4 c5 c6 c7 hN2 l0 l1 l2 l3
      go_wp2_with fail
      go_round
      case rel => exact ⟨0 + 1, cv2, rfl, by decide, HW3, HE3⟩
      case measure => simp [intOf]
    · have gL3 := new_heap wr (.cells #[.int .i64 2, .int .i64 1, .string ⟨#[]⟩, .slice none 0 0] 29)
      obtain ⟨l0, l1, l2, l3⟩ := box_cells gL3
      have hg := grown_alloc wr (.cells #[.int .i64 2, .int .i64 1, .string ⟨#[]⟩, .slice none 0 0] 29)
      have hW2 := HW.out.free hg
      have hE2 := HE.out.trans (Em.free (wb := wb) (r := cv'.ownBlock) hg)
      have hX := Lib.hid (exp_int wb mb B cv' [⟨3, 0, 0⟩] _ hW2 (by simp; omega) (by simp))
      clear hW2 gL3 hg
      go_wp2_with fail
      refine hX.out.mono ?_
      rintro e w2 ⟨rfl, cv2, hW3, hE3⟩
      have HW3 := Lib.hid hW3
      have HE3 := Lib.hid (hE2.trans hE3)
      clear hE2 hW3 hE3 hX c0 c1 c2 c3 c4 c5 c6 c7 hN2 l0 l1 l2 l3
      go_wp2_with fail
      go_round
      case rel => exact ⟨1 + 1, cv2, rfl, by decide, HW3, HE3⟩
      case measure => simp [intOf]
    · go_wp2_with fail
      go_end0
      exact ⟨rfl, cv', HW.out, HE.out⟩
set_option maxHeartbeats 1000000 in
set_option maxRecDepth 100000 in
theorem exp_node (wb mb B B0 : Nat) (cv : Value) (V : World) (h : WSt V wb mb B cv []) (hB : B ≤ V.heap.size) (hN : NodeAt V B0) (h0 : B0 < wb) :
    Calls Tryz.prog 50 #[.pointer (some ⟨wb, 0, none⟩), nodeV B0, .int .i64 1] V fun e V' => e = .returned (.tuple #[]) ∧ WrOk wb mb B cv [⟨3, 0, 0⟩, ⟨1, 1, 0⟩, ⟨15, 1, 0⟩] V V' := by
  unfold nodeV
  have hg := grown_alloc V (.cells #[.int .i64 12, .int .i64 1, .string ⟨#[]⟩, .slice (some ⟨B0, 0, none⟩) 2 2] 29)
  have gP := new_heap V (.cells #[.int .i64 12, .int .i64 1, .string ⟨#[]⟩, .slice (some ⟨B0, 0, none⟩) 2 2] 29)
  have h2 := h.free hg
  have hE1 := Em.free (wb := wb) (r := cv.ownBlock) hg
  have hN2 := hN.below (box_node B0 V)
  have hB2 : B ≤ (V.alloc (.cells #[.int .i64 12, .int .i64 1, .string ⟨#[]⟩, .slice (some ⟨B0, 0, none⟩) 2 2] 29)).heap.size := by simp; omega
  have hc := owns_lt h.own
  have hwlt := heap_lt h.blk
  have HX := Lib.hid (all_any wb mb B B0 cv _ h2 hB2 hN2 h0)
  have hlt := heap_lt gP
  clear hg
  go_enter Tryz.func50, Tryz.ntmps50
  go_wp2_with fail
  refine HX.out.mono ?_
  rintro e V2 ⟨rfl, cv2, hW2, hE2⟩
  have gP2 := (hE2.kept V.heap.size hlt (by omega) (fun e => by have := (hc _ e).2; omega)).trans gP
  obtain ⟨p0, p1, p2, p3⟩ := box_cells gP2
  have hsz := hE2.size
  have HM := Lib.hid (emit_any wb mb B cv2 _ 15 1 0 V2 hW2 (by omega) (by simp))
  have HE := Lib.hid (hE1.trans hE2)
  clear hE1 hE2 hW2 gP gP2 HX hN2 h2
  go_wp2_with fail
  refine HM.out.mono ?_
  rintro e V3 ⟨⟨r, rfl⟩, cv3, hW3, hE3⟩
  have HR : Hid (WrOk wb mb B cv [⟨3, 0, 0⟩, ⟨1, 1, 0⟩, ⟨15, 1, 0⟩] V V3) := ⟨cv3, hW3, HE.out.trans hE3⟩
  clear hW3 hE3
  go_wp2_with fail
  go_end0
  exact ⟨rfl, HR.out⟩
/-- The code of the example. -/
def exCode : List Ins := [⟨3, 0, 0⟩, ⟨1, 1, 0⟩, ⟨15, 1, 0⟩, ⟨9, 0, 0⟩]
theorem ex_reach : Reach exCode 0 0 ∧ Reach exCode 1 1 ∧ Reach exCode 2 2 ∧ Reach exCode 3 1 := by
  have r0 : Reach exCode 0 0 := .start
  have r1 : Reach exCode 1 1 := Reach.step (t := 1) r0 (by unfold OkAt; decide) (by decide)
  have r2 : Reach exCode 2 2 := Reach.step (t := 2) r1 (by unfold OkAt; decide) (by decide)
  have r3 : Reach exCode 3 1 := Reach.step (t := 3) r2 (by unfold OkAt; decide) (by decide)
  exact ⟨r0, r1, r2, r3⟩
theorem ex_depth : DepOk exCode 2 0 := by
  obtain ⟨r0, r1, r2, r3⟩ := ex_reach
  have hI : Inv exCode [0, 1, 2, 1] [] 2 none 0 := by
    refine ⟨rfl, rfl, fun a ha hne => ?_, fun t ht => (by cases ht), fun a ha hne _ _ => ?_, by decide, .inr ⟨2, 2, r2, .inl rfl⟩, fun c hc => (by cases hc)⟩
    · have ha' : a < 4 := ha
      rcases (by omega : a = 0 ∨ a = 1 ∨ a = 2 ∨ a = 3) with rfl | rfl | rfl | rfl
      · exact ⟨by decide, r0, by decide⟩
      · exact ⟨by decide, r1, by decide⟩
      · exact ⟨by decide, r2, by decide⟩
      · exact ⟨by decide, r3, by decide⟩
    · have ha' : a < 4 := ha
      rcases (by omega : a = 0 ∨ a = 1 ∨ a = 2 ∨ a = 3) with rfl | rfl | rfl | rfl <;> (unfold OkAt; decide)
  exact hI.end (by decide)

theorem fun_info : (Tryz.prog.info? 43).map (·.size) = some 4 := by kernel_rfl
theorem set4 {V : World} {R : Nat} {x y z u : Value} (h : V.heap[R]? = some (.cells #[x, y, z, u] 43 (0, 0))) (a b c d : Value) : ((((V.setCell ⟨R, 0, none⟩ a).setCell ⟨R, 1, none⟩ b).setCell ⟨R, 2, none⟩ c).setCell ⟨R, 3, none⟩ d).heap[R]? = some (.cells #[a, b, c, d] 43 (0, 0)) ∧ V.grownBy ((((V.setCell ⟨R, 0, none⟩ a).setCell ⟨R, 1, none⟩ b).setCell ⟨R, 2, none⟩ c).setCell ⟨R, 3, none⟩ d) (some R) :=
  ⟨heap_set_same (heap_set_same (heap_set_same (heap_set_same h _) _) _) _, grown_both (grown_both (grown_both (grown_set V R 0 a) (grown_set _ R 1 b)) (grown_set _ R 2 c)) (grown_set _ R 3 d)⟩
/-- What function answers at the example: no captures, one local variable, the code. -/
def FnOk (w : World) (e : Ending) (w' : World) : Prop := ∃ ca cc, e = .returned (.tuple #[.agg #[.int .i64 0, .int .i64 1, .int .i64 2, .slice ca 4 cc], .int .i64 0]) ∧ Below w.heap.size w w'
set_option maxHeartbeats 2000000 in
set_option maxRecDepth 100000 in
theorem cfun_any (B0 : Nat) (w : World) (h : NodeAt w B0) : Calls Tryz.prog 24 #[flatV B0, .slice none 0 0] w (FnOk w) := by
  unfold flatV
  have hmm := @run_makeMap Tryz.prog
  have hb : Below w.heap.size w ((w.alloc (.cells #[.int .i64 0, .int .i64 12, .int .i64 1, .string ⟨#[]⟩, .slice (some ⟨B0, 0, none⟩) 2 2] 31)).alloc (.cells #[.int .i64 0, .int .i64 0, .int .i64 0, .slice none 0 0] 43)) := ((Below.refl _ _).alloc (Nat.le_refl _) _).alloc (by simp) _
  have gP : ((w.alloc (.cells #[.int .i64 0, .int .i64 12, .int .i64 1, .string ⟨#[]⟩, .slice (some ⟨B0, 0, none⟩) 2 2] 31)).alloc (.cells #[.int .i64 0, .int .i64 0, .int .i64 0, .slice none 0 0] 43)).heap[w.heap.size]? = some (.cells #[.int .i64 0, .int .i64 12, .int .i64 1, .string ⟨#[]⟩, .slice (some ⟨B0, 0, none⟩) 2 2] 31 (0, 0)) := (Below.heap_alloc _ _ _ (by simp)).trans (new_heap w _)
  have gR : ((w.alloc (.cells #[.int .i64 0, .int .i64 12, .int .i64 1, .string ⟨#[]⟩, .slice (some ⟨B0, 0, none⟩) 2 2] 31)).alloc (.cells #[.int .i64 0, .int .i64 0, .int .i64 0, .slice none 0 0] 43)).heap[w.heap.size + 1]? = some (.cells #[.int .i64 0, .int .i64 0, .int .i64 0, .slice none 0 0] 43 (0, 0)) := (congrArg _ (by simp)).trans (new_heap (w.alloc _) _)
  have hN := h.below hb
  have hN0 := heap_lt h
  clear h
  go_enter Tryz.func24, Tryz.ntmps24
  go_upto_region 1 with fail
  generalize ((w.alloc (.cells #[.int .i64 0, .int .i64 12, .int .i64 1, .string ⟨#[]⟩, .slice (some ⟨B0, 0, none⟩) 2 2] 31)).alloc (.cells #[.int .i64 0, .int .i64 0, .int .i64 0, .slice none 0 0] 43)) = W at *
  obtain ⟨p0, p1, p2, p3, p4⟩ := flat_cells gP
  go_wp2_with fail
  refine (cLocals_any B0 _ hN).mono ?_
  rintro e w2 ⟨rfl, hb2⟩
  have gP2 := (hb2.block _ (heap_lt gP)).trans gP
  have gR2 := (hb2.block _ (heap_lt gR)).trans gR
  have hN2 := hN.below hb2
  have hbb := hb.trans (hb2.mono hb.size)
  clear gP gR hN hb hb2 p0 p1 p2 p3 p4
  go_wp2_with fail
  generalize hw3 : (w2.alloc (.map #[] 0)) = w3
  generalize hw4 : (w3.alloc (.cells #[.slice none 0 0, .map (some w2.heap.size)] 102)) = w4
  have hg1 : w2.grownBy w3 none := hw3 ▸ grown_alloc w2 _
  have hg2 : w3.grownBy w4 none := hw4 ▸ grown_alloc w3 _
  have hz3 : w3.heap.size = w2.heap.size + 1 := by subst hw3; simp
  have hz4 : w4.heap.size = w2.heap.size + 1 + 1 := by subst hw4; simp [hz3]
  have gW4 : w4.heap[w2.heap.size + 1]? = some (.cells #[.slice none 0 0, .map (some w2.heap.size)] 102 (0, 0)) := by subst hw4; rw [← hz3]; exact new_heap w3 _
  clear hw3 hw4
  have hl0 := hbb.size
  have hl1 := heap_lt gP2
  have hl2 := heap_lt gR2
  have hgN := grown_both hg1 hg2
  have gP4 := (hgN.block _ hl1 (by nofun)).trans gP2
  have gR4 := (hgN.block _ hl2 (by nofun)).trans gR2
  have hN4 := hN2.below (grown_under hgN (Nat.le_refl _) (by nofun))
  have hb4 := hbb.trans (grown_under (B := w.heap.size) hgN hl0 (by nofun))
  have HW4 : Hid (WSt w4 (w2.heap.size + 1) w2.heap.size (w2.heap.size + 1 + 1) (.slice none 0 0) []) := ⟨gW4, World.ownsRow_nil _ _ _ _, Nat.lt_succ_self _⟩
  have hBz : w2.heap.size + 1 + 1 ≤ w4.heap.size := by omega
  clear hg1 hg2 gW4 hgN gP2 gR2 hN2 hbb
  generalize w2.heap.size = wm at *
  clear hz3 hz4
  have HX := Lib.hid (exp_node (wm + 1) wm (wm + 1 + 1) B0 (.slice none 0 0) w4 HW4.out hBz hN4 (by omega))
  go_loop [27] (fun i => i = .int .i64 0) (fun _ => 0)
  case atStart => rfl
  case round =>
    subst hrel
    obtain ⟨p0, p1, p2, p3, p4⟩ := flat_cells gP4
    go_wp2_with fail
    refine HX.out.mono ?_
    rintro e w5 ⟨rfl, cv5, hW5, hE5⟩
    have gP5 := (hE5.kept _ (heap_lt gP4) (by omega) (by nofun)).trans gP4
    have gR5 := (hE5.kept _ (heap_lt gR4) (by omega) (by nofun)).trans gR4
    have hs5 := hE5.size
    have hb5 := hb4.trans (hE5.below (B := w.heap.size) (by omega) (by omega) (by nofun))
    have hc5 := owns_lt hW5.own
    have HM := Lib.hid (emit_any (wm + 1) wm (wm + 1 + 1) cv5 _ 9 0 0 w5 hW5 (by omega) (by simp))
    clear p0 p1 p2 p3 p4 gP4 gR4 hE5 hW5 HX HW4 hN4 hb4
    go_wp2_with fail
    refine HM.out.mono ?_
    rintro e w6 ⟨⟨r0, rfl⟩, cv6, hW6, hE6⟩
    have gP6 := (hE6.kept _ (heap_lt gP5) (by omega) (fun e => by have := (hc5 _ e).1; omega)).trans gP5
    have gR6 := (hE6.kept _ (heap_lt gR5) (by omega) (fun e => by have := (hc5 _ e).1; omega)).trans gR5
    have hs6 := hE6.size
    have hb6 := hb5.trans (hE6.below (B := w.heap.size) (by omega) (by omega) (fun k e => by have := (hc5 _ e).1; omega))
    have hI6 : IsCode w6 cv6 exCode := isRow_owns hW6.own
    have hd6 := depth_any cv6 exCode w6 hI6 (by decide)
    have gW6 := hW6.blk
    obtain ⟨ca, cc, rfl, _⟩ := hI6
    have HD := Lib.hid hd6
    obtain ⟨s0, s1⟩ := w_cells gW6
    clear hd6 hE6 hW6 HM gP5 gR5 hb5 hc5
    go_wp2_with fail
    refine HD.out.mono ?_
    rintro e w7 ⟨r, er, rfl, hdep, hb7⟩
    obtain ⟨rfl, rfl⟩ := dep_one _ _ _ _ _ hdep ex_depth
    have gP7 := (hb7.block _ (heap_lt gP6)).trans gP6
    have gR7 := (hb7.block _ (heap_lt gR6)).trans gR6
    have gW7 := (hb7.block _ (heap_lt gW6)).trans gW6
    have hbe := hb6.trans (hb7.mono hb6.size)
    clear gP6 gR6 gW6 s0 s1 hb6 hb7 HD
    obtain ⟨p0, p1, p2, p3, p4⟩ := flat_cells gP7
    obtain ⟨s0, s1⟩ := w_cells gW7
    have hfz : w7.frozen? ⟨w.heap.size + 1, 0, none⟩ = false := Lib.frozen_of_heap gR7 0
    obtain ⟨q0, q1, q2, q3⟩ := fun_cells gR7
    go_upto_region 17 with fail
    obtain ⟨gr, hgr⟩ := set4 gR7 (.int .i64 0) (.int .i64 1) (.int .i64 2) (.slice ca exCode.length cc)
    have hbf := hbe.trans (grown_under (B := w.heap.size) hgr (by have := hbe.size; omega) (fun k hk => by cases hk; omega))
    have hfz1 : w7.frozen? ⟨w.heap.size + 1, 1, none⟩ = false := Lib.frozen_of_heap gR7 1
    have hfz2 : w7.frozen? ⟨w.heap.size + 1, 2, none⟩ = false := Lib.frozen_of_heap gR7 2
    have hfz3 : w7.frozen? ⟨w.heap.size + 1, 3, none⟩ = false := Lib.frozen_of_heap gR7 3
    have HG := Lib.hid gr
    clear hgr hbe gr
    go_region
    all_goals go_wp2_with fail
    all_goals
      have hg1 := HG.out
      refine bodyPost_ret (v := .tuple #[.agg #[.int .i64 0, .int .i64 1, .int .i64 2, .slice ca 4 cc], .int .i64 0]) ?_ rfl ⟨ca, cc, rfl, hbf.drew⟩
      rw [results_cell_tmp (p := 4) (u := 5) (ty := 43) rfl]
      simp [asAddr, run_loadVar_row (((((w7.setCell { block := w.heap.size + 1, off := 0 } (Value.int IntKind.i64 0)).setCell
                    { block := w.heap.size + 1, off := 1 } (Value.int IntKind.i64 1)).setCell
                { block := w.heap.size + 1, off := 2 } (Value.int IntKind.i64 2)).setCell
            { block := w.heap.size + 1, off := 3 } (Value.slice ca exCode.length cc)).drew) _ _ _ _ _ _ hg1 Tryz.underlying43 rfl fun_info, Result.andThen]
      try rfl
end Go.Proofs.YtidolpcbbbakmaaGreat
