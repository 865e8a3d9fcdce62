/- The example of law 47: the writer. -/
import Derived.Test.YtidolpcbbbakmaaAw3
import Derived.Deep.AppendLies
import Derived.Laws.ResultCell
namespace Go.Proofs.Ytidolpcbbbakmaa
open Go Go.RowKit

theorem info_instr : (Try.prog.info? 54).map (fun i => (i.zero, i.size, i.bytes)) = some (some (.agg #[.int .i64 0, .int .i64 0, .int .i64 0]), 3, 24) := by kernel_rfl
theorem insCells_app (is : List Ins) (i : Ins) : insCells (is ++ [i]) = insCells is ++ [.int .i64 i.op, .int .i64 i.a, .int .i64 i.b] := by simp [insCells]
theorem owns_lt {V : World} {B : Nat} {e : TypeId} {s n : Nat} {v : Value} {xs : List Value} (h : V.ownsRow B e s v n xs) (g : Nat) (hg : v.ownBlock = some g) : B ≤ g ∧ g < V.heap.size := by
  obtain ⟨_, h2⟩ := h
  rcases h2 with ⟨rfl, _⟩ | ⟨g', cap, cur, rfl, hb, hh, _⟩
  · cases hg
  · cases hg; exact ⟨hb, heap_lt hh⟩
theorem owns_grown {V V' : World} {B : Nat} {e : TypeId} {s n : Nat} {v : Value} {xs : List Value} {r : Option Nat} (h : V.ownsRow B e s v n xs) (hg : V.grownBy V' r) (hr : ∀ k, r = some k → v.ownBlock ≠ some k) : V'.ownsRow B e s v n xs := by
  obtain ⟨h1, h2⟩ := h
  refine ⟨h1, ?_⟩
  rcases h2 with h2 | ⟨g, cap, cur, rfl, hb, hh, hrest⟩
  · exact .inl h2
  · exact .inr ⟨g, cap, cur, rfl, hb, (hg.block g (heap_lt hh) (fun e => hr g e.symm rfl)).trans hh, hrest⟩
theorem owns_slice {V : World} {B : Nat} {e : TypeId} {s n : Nat} {v : Value} {xs : List Value} (h : V.ownsRow B e s v n xs) : ∃ a m c, v = .slice a m c := by
  obtain ⟨_, h2⟩ := h
  rcases h2 with ⟨rfl, _⟩ | ⟨g, cap, cur, rfl, _⟩
  · exact ⟨_, _, _, rfl⟩
  · exact ⟨_, _, _, rfl⟩
/-- The writer at wb holds this code. -/
structure WSt (V : World) (wb mb B : Nat) (cv : Value) (L : List Ins) : Prop where
  blk : V.heap[wb]? = some (.cells #[cv, .map (some mb)] 91 (0, 0))
  own : V.ownsRow B 54 3 cv L.length (insCells L)
  lt : wb < B
/-- All blocks but the writer's and its code's are as they were. -/
structure Em (wb : Nat) (V V' : World) (r r' : Option Nat) : Prop where
  os : V'.os = V.os
  tape : V'.tape = V.tape
  output : V'.output = V.output
  size : V.heap.size ≤ V'.heap.size
  kept : ∀ k, k < V.heap.size → k ≠ wb → r ≠ some k → V'.heap[k]? = V.heap[k]?
  own : r' = r ∨ ∃ g, r' = some g ∧ V.heap.size ≤ g
theorem Em.refl (wb : Nat) (V : World) (r : Option Nat) : Em wb V V r r := ⟨rfl, rfl, rfl, Nat.le_refl _, fun _ _ _ _ => rfl, .inl rfl⟩
theorem Em.trans {wb : Nat} {a b c : World} {r s t : Option Nat} (h : Em wb a b r s) (k : Em wb b c s t) : Em wb a c r t := by
  refine ⟨k.os.trans h.os, k.tape.trans h.tape, k.output.trans h.output, Nat.le_trans h.size k.size, fun q hq hw hr => ?_, ?_⟩
  · have hs : s ≠ some q := by
      rcases h.own with e | ⟨g, e, hg⟩
      · rw [e]; exact hr
      · rw [e]; intro e2; cases e2; omega
    exact (k.kept q (Nat.lt_of_lt_of_le hq h.size) hw hs).trans (h.kept q hq hw hr)
  · rcases k.own with e | ⟨g, e, hg⟩
    · rw [e]; exact h.own
    · exact .inr ⟨g, e, Nat.le_trans h.size hg⟩
theorem Em.grown {wb : Nat} {V V' : World} {r r' : Option Nat} (h : V.grownBy V' r) (ho : r' = r ∨ ∃ g, r' = some g ∧ V.heap.size ≤ g) : Em wb V V' r r' :=
  ⟨h.os, h.tape, h.output, h.size, fun k hk _ hr => h.block k hk (Ne.symm hr), ho⟩
theorem Em.free {wb : Nat} {V V' : World} {r : Option Nat} (h : V.grownBy V' none) : Em wb V V' r r :=
  ⟨h.os, h.tape, h.output, h.size, fun k hk _ _ => h.block k hk (by nofun), .inl rfl⟩
theorem Em.set {wb : Nat} (V : World) (o : Nat) (u : Value) (r : Option Nat) : Em wb V (V.setCell ⟨wb, o, none⟩ u) r r := by
  have h := grown_set V wb o u
  exact ⟨h.os, h.tape, h.output, h.size, fun k hk hw _ => h.block k hk (fun e => hw (Option.some.inj e)), .inl rfl⟩
theorem Em.below {wb B : Nat} {V V' : World} {r r' : Option Nat} (h : Em wb V V' r r') (hB : B ≤ wb) (hwb : wb < V.heap.size) (hr : ∀ k, r = some k → wb ≤ k) : Below B V V' :=
  ⟨h.os, h.tape, h.output, h.size, fun k hk => h.kept k (by omega) (by omega) (fun e => by have := hr k e; omega)⟩
theorem WSt.free {V V' : World} {wb mb B : Nat} {cv : Value} {L : List Ins} (h : WSt V wb mb B cv L) (hg : V.grownBy V' none) : WSt V' wb mb B cv L :=
  ⟨(hg.block wb (heap_lt h.blk) (by nofun)).trans h.blk, owns_grown h.own hg (by nofun), h.lt⟩
theorem w_cells {w : World} {q : Nat} {x y : Value} {t : TypeId} (h : w.heap[q]? = some (.cells #[x, y] t (0, 0))) : w.cell? ⟨q, 0, none⟩ = some x ∧ w.cell? ⟨q, 1, none⟩ = some y := by
  simp [World.cell?, h]
def WrOk (wb mb B : Nat) (cv : Value) (L : List Ins) (V V' : World) : Prop := ∃ cv', WSt V' wb mb B cv' L ∧ Em wb V V' cv.ownBlock cv'.ownBlock
set_option maxHeartbeats 1000000 in
set_option maxRecDepth 100000 in
theorem emit_any (wb mb B : Nat) (cv : Value) (L : List Ins) (op a b : Int) (V : World) (h : WSt V wb mb B cv L) (hB : B ≤ V.heap.size) (hL : L.length ≤ 1000) :
    Calls Try.prog 46 #[.pointer (some ⟨wb, 0, none⟩), .int .i64 op, .int .i64 a, .int .i64 b] V fun e V' => (∃ r, e = .returned (.int .i64 r)) ∧ WrOk wb mb B cv (L ++ [⟨op, a, b⟩]) V V' := by
  have H := Lib.hid h
  obtain ⟨ca, cn, cc, rfl⟩ := owns_slice h.own
  obtain ⟨ii0, hii, hiz0, hiz1, hiz2⟩ := info_parts info_instr
  obtain ⟨c0, c1⟩ := w_cells h.blk
  have hwlt := h.lt
  clear h
  go_enter Try.func46, Try.ntmps46
  go_wp2_with (at_builtin; refine wpList_append_lies _ rfl _ _ 43 rfl B 54 ii0 (.agg #[.int .i64 0, .int .i64 0, .int .i64 0]) 3 24 Try.underlying43 hii hiz0 hiz1 hiz2 rfl (by decide) _ L.length (insCells L) rfl (H.out.own.alloc _) ⟨V.heap.size, 0, none⟩ 1 1 [.int .i64 op, .int .i64 a, .int .i64 b] rfl rfl ?c1 ?c2 (by decide) ?c3 ?c4 ?c5 _ rfl ?_)
  case c1 => exact World.news_of_block (cs := #[.int .i64 op, .int .i64 a, .int .i64 b]) (new_heap V _)
  case c2 => intro u hu; simp at hu; rcases hu with rfl | rfl | rfl <;> rfl
  case c3 => unfold maxLen; omega
  case c4 => omega
  case c5 => simp; omega
  intro g cap w4 hown4 hgrow4 hat4 hlt4
  have hg3 := grown_alloc V (.cells #[.int .i64 op, .int .i64 a, .int .i64 b] 54)
  have hown0 := owns_lt H.out.own
  have hlt0 := heap_lt H.out.blk
  have gW := (hgrow4.block wb (by simp; omega) (fun e => by have := (hown0 wb e.symm).1; omega)).trans ((hg3.block wb hlt0 (by nofun)).trans H.out.blk)
  obtain ⟨d0, d1⟩ := w_cells gW
  have fz : w4.frozen? ⟨wb, 0, none⟩ = false := Lib.frozen_of_heap gW 0
  have hE := ((Em.free (wb := wb) (r := (Value.slice ca cn cc).ownBlock) hg3).trans (Em.grown hgrow4 (r' := some g) (by
    rcases hat4 with e | e
    · exact .inl e.symm
    · exact .inr ⟨g, rfl, by simp; omega⟩))).trans (Em.set w4 0 (.slice (some ⟨g, 0, none⟩) (L.length + 1) cap) (some g))
  have gW2 := heap_set_same (i := 0) gW (.slice (some ⟨g, 0, none⟩) (L.length + 1) cap)
  have hown5 : w4.ownsRow B 54 3 (.slice (some ⟨g, 0, none⟩) (L.length + 1) cap) (L ++ [(⟨op, a, b⟩ : Ins)]).length (insCells (L ++ [(⟨op, a, b⟩ : Ins)])) := by rw [insCells_app, List.length_append]; exact hown4
  have hown6 := owns_grown hown5 (grown_set w4 wb 0 (.slice (some ⟨g, 0, none⟩) (L.length + 1) cap)) (fun k hk e => by cases hk; have := (owns_lt hown5 _ e).1; omega)
  have HR : Hid (WrOk wb mb B (.slice ca cn cc) (L ++ [⟨op, a, b⟩]) V (w4.setCell ⟨wb, 0, none⟩ (.slice (some ⟨g, 0, none⟩) (L.length + 1) cap))) := ⟨_, ⟨gW2, hown6, hwlt⟩, hE⟩
  have s0 := (w_cells gW2).1
  clear hE hown4 hown5 hown6 hgrow4 hat4 hg3 hown0 gW c0 c1
  go_wp2_with fail
  go_ret
  exact ⟨⟨_, rfl⟩, HR.out⟩
def exS1 : List Ins := [⟨3, 0, 0⟩]
set_option maxHeartbeats 1000000 in
set_option maxRecDepth 100000 in
theorem exp_local (wb mb B : Nat) (cv : Value) (L : List Ins) (V : World) (h : WSt V wb mb B cv L) (hB : B ≤ V.heap.size) (hL : L.length ≤ 1000) :
    Calls Try.prog 45 #[.pointer (some ⟨wb, 0, none⟩), leafV 21 0, .int .i64 1] V fun e V' => e = .returned (.tuple #[]) ∧ WrOk wb mb B cv (L ++ [⟨3, 0, 0⟩]) V V' := by
  unfold leafV
  have hg := grown_alloc V (.cells #[.int .i64 21, .int .i64 0, .string ⟨#[]⟩, .slice none 0 0] 36)
  have h2 := h.free hg
  have hE1 := Em.free (wb := wb) (r := cv.ownBlock) hg
  have hB2 : B ≤ (V.alloc (.cells #[.int .i64 21, .int .i64 0, .string ⟨#[]⟩, .slice none 0 0] 36)).heap.size := by simp; omega
  go_enter Try.func45, Try.ntmps45
  go_wp2_with fail
  refine (emit_any wb mb B cv L _ _ _ _ h2 hB2 hL).mono ?_
  rintro e V2 ⟨⟨r, rfl⟩, cv', hW, hE⟩
  have HR : Hid (WrOk wb mb B cv (L ++ [⟨3, 0, 0⟩]) V V2) := ⟨cv', hW, hE1.trans hE⟩
  clear hW hE hE1
  go_wp2_with fail
  go_end0
  exact ⟨rfl, HR.out⟩
set_option maxHeartbeats 1000000 in
set_option maxRecDepth 100000 in
theorem exp_int (wb mb B : Nat) (cv : Value) (L : List Ins) (V : World) (h : WSt V wb mb B cv L) (hB : B ≤ V.heap.size) (hL : L.length ≤ 1000) :
    Calls Try.prog 45 #[.pointer (some ⟨wb, 0, none⟩), leafV 2 1, .int .i64 1] V fun e V' => e = .returned (.tuple #[]) ∧ WrOk wb mb B cv (L ++ [⟨1, 1, 0⟩]) V V' := by
  unfold leafV
  have hg := grown_alloc V (.cells #[.int .i64 2, .int .i64 1, .string ⟨#[]⟩, .slice none 0 0] 36)
  have h2 := h.free hg
  have hE1 := Em.free (wb := wb) (r := cv.ownBlock) hg
  have hB2 : B ≤ (V.alloc (.cells #[.int .i64 2, .int .i64 1, .string ⟨#[]⟩, .slice none 0 0] 36)).heap.size := by simp; omega
  go_enter Try.func45, Try.ntmps45
  go_wp2_with fail
  refine (emit_any wb mb B cv L _ _ _ _ h2 hB2 hL).mono ?_
  rintro e V2 ⟨⟨r, rfl⟩, cv', hW, hE⟩
  have HR : Hid (WrOk wb mb B cv (L ++ [⟨1, 1, 0⟩]) V V2) := ⟨cv', hW, hE1.trans hE⟩
  clear hW hE hE1
  go_wp2_with fail
  go_end0
  exact ⟨rfl, HR.out⟩
end Go.Proofs.Ytidolpcbbbakmaa
