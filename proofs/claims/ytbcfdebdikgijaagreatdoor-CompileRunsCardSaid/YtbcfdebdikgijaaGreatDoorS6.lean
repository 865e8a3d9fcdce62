/- Part of the proof; its texts: Aw4 Aw5 Aw6 Aw7 Aw8. -/
import Derived.Test.YtbcfdebdikgijaaGreatDoorS3
import Derived.Deep.AppendLies
import Derived.Laws.ResultCell
set_option maxRecDepth 100000
set_option linter.unusedVariables false
set_option linter.unusedSimpArgs false
set_option maxHeartbeats 2000000
namespace Go.Proofs.YtbcfdebdikgijaaGreatDoor
open Go Go.RowKit
theorem LJ : (Tryz.prog.info? 59).map (fun i => (i.zero, i.size, i.bytes)) = some (some (.agg #[.int .i64 0, .int .i64 0, .int .i64 0]), 3, 24) := by kernel_rfl
theorem OQ (is : List Ins) (i : Ins) : YE (is ++ [i]) = YE is ++ [.int .i64 i.op, .int .i64 i.a, .int .i64 i.b] := by simp [YE]
theorem Zw {V : World} {B : Nat} {e : TypeId} {s n : Nat} {v : Value} {xs : List Value} (h : V.ownsRow B e s v n xs) (g : Nat) (hg : v.ownBlock = some g) : B <= g /\ g < V.heap.size := by
 obtain ⟨_, h2⟩ := h
 rcases h2 with ⟨rfl, _⟩ | ⟨g', cap, cur, rfl, hb, hh, _⟩
 ·cases hg
 ·cases hg; exact ⟨hb, Z6 hh⟩
theorem Zx {V V' : World} {B : Nat} {e : TypeId} {s n : Nat} {v : Value} {xs : List Value} {r : Option Nat} (h : V.ownsRow B e s v n xs) (hg : V.grownBy V' r) (hr : ∀ k, r = some k -> v.ownBlock ≠ some k) : V'.ownsRow B e s v n xs := by
 obtain ⟨h1, h2⟩ := h
 refine ⟨h1, ?_⟩
 rcases h2 with h2 | ⟨g, cap, cur, rfl, hb, hh, hrest⟩
 ·exact .inl h2
 ·exact .inr ⟨g, cap, cur, rfl, hb, (hg.block g (Z6 hh) (fun e => hr g e.symm rfl)).trans hh, hrest⟩
theorem LH {V : World} {B : Nat} {e : TypeId} {s n : Nat} {v : Value} {xs : List Value} (h : V.ownsRow B e s v n xs) : ∃ a m c, v = .slice a m c := by
 obtain ⟨_, h2⟩ := h
 rcases h2 with ⟨rfl, _⟩ | ⟨g, cap, cur, rfl, _⟩
 ·exact ⟨_, _, _, rfl⟩
 ·exact ⟨_, _, _, rfl⟩
structure MH (V : World) (wb mb B : Nat) (cv : Value) (L : List Ins) : Prop where
 blk : V.heap[wb]? = some (.cells #[cv, .map (some mb)] 120 (0, 0))
 own : V.ownsRow B 59 3 cv L.length (YE L)
 lt : wb < B
structure Em (wb : Nat) (V V' : World) (r r' : Option Nat) : Prop where
 os : V'.os = V.os
 tape : V'.tape = V.tape
 output : V'.output = V.output
 size : V.heap.size <= V'.heap.size
 kept : ∀ k, k < V.heap.size -> k ≠ wb -> r ≠ some k -> V'.heap[k]? = V.heap[k]?
 own : r' = r \/ ∃ g, r' = some g /\ V.heap.size <= g
theorem Em.refl (wb : Nat) (V : World) (r : Option Nat) : Em wb V V r r := ⟨rfl, rfl, rfl, Nat.le_refl _, fun _ _ _ _ => rfl, .inl rfl⟩
theorem Em.trans {wb : Nat} {a b c : World} {r s t : Option Nat} (h : Em wb a b r s) (k : Em wb b c s t) : Em wb a c r t := by
 refine ⟨k.os.trans h.os, k.tape.trans h.tape, k.output.trans h.output, Nat.le_trans h.size k.size, fun q hq hw hr => ?_, ?_⟩
 ·have hs : s ≠ some q := by
   rcases h.own with e | ⟨g, e, hg⟩
   ·rw [e]; exact hr
   ·rw [e]; intro e2; cases e2; omega
  exact (k.kept q (Nat.lt_of_lt_of_le hq h.size) hw hs).trans (h.kept q hq hw hr)
 ·rcases k.own with e | ⟨g, e, hg⟩
  ·rw [e]; exact h.own
  ·exact .inr ⟨g, e, Nat.le_trans h.size hg⟩
theorem Em.grown {wb : Nat} {V V' : World} {r r' : Option Nat} (h : V.grownBy V' r) (ho : r' = r \/ ∃ g, r' = some g /\ V.heap.size <= g) : Em wb V V' r r' :=
 ⟨h.os, h.tape, h.output, h.size, fun k hk _ hr => h.block k hk (Ne.symm hr), ho⟩
theorem Em.free {wb : Nat} {V V' : World} {r : Option Nat} (h : V.grownBy V' none) : Em wb V V' r r :=
 ⟨h.os, h.tape, h.output, h.size, fun k hk _ _ => h.block k hk (by nofun), .inl rfl⟩
theorem Em.set {wb : Nat} (V : World) (o : Nat) (u : Value) (r : Option Nat) : Em wb V (V.setCell ⟨wb, o, none⟩ u) r r := by
 have h := Zv V wb o u
 exact ⟨h.os, h.tape, h.output, h.size, fun k hk hw _ => h.block k hk (fun e => hw (Option.some.inj e)), .inl rfl⟩
theorem Em.below {wb B : Nat} {V V' : World} {r r' : Option Nat} (h : Em wb V V' r r') (hB : B <= wb) (hwb : wb < V.heap.size) (hr : ∀ k, r = some k -> wb <= k) : Below B V V' :=
 ⟨h.os, h.tape, h.output, h.size, fun k hk => h.kept k (by omega) (by omega) (fun e => by have := hr k e; omega)⟩
theorem MH.free {V V' : World} {wb mb B : Nat} {cv : Value} {L : List Ins} (h : MH V wb mb B cv L) (hg : V.grownBy V' none) : MH V' wb mb B cv L :=
 ⟨(hg.block wb (Z6 h.blk) (by nofun)).trans h.blk, Zx h.own hg (by nofun), h.lt⟩
theorem V9 {w : World} {q : Nat} {x y : Value} {t : TypeId} (h : w.heap[q]? = some (.cells #[x, y] t (0, 0))) : w.cell? ⟨q, 0, none⟩ = some x /\ w.cell? ⟨q, 1, none⟩ = some y := by
 simp [World.cell?, h]
def Qe (wb mb B : Nat) (cv : Value) (L : List Ins) (V V' : World) : Prop := ∃ cv', MH V' wb mb B cv' L /\ Em wb V V' cv.ownBlock cv'.ownBlock
theorem OP (wb mb B : Nat) (cv : Value) (L : List Ins) (op a b : Int) (V : World) (h : MH V wb mb B cv L) (hB : B <= V.heap.size) (hL : L.length <= 1000) :
 Calls Tryz.prog 56 #[.pointer (some ⟨wb, 0, none⟩), .int .i64 op, .int .i64 a, .int .i64 b] V fun e V' => (∃ r, e = .returned (.int .i64 r)) /\ Qe wb mb B cv (L ++ [⟨op, a, b⟩]) V V' := by
 have H := Z9 h
 obtain ⟨ca, cn, cc, rfl⟩ := LH h.own
 obtain ⟨ii0, hii, TI, TH, TG⟩ := info_parts LJ
 obtain ⟨c0, c1⟩ := V9 h.blk
 have qQ := h.lt
 clear h
 go_in
 go_wp2_with (at_builtin; refine wpList_append_lies _ rfl _ _ 51 rfl B 59 ii0 (.agg #[.int .i64 0, .int .i64 0, .int .i64 0]) 3 24 Tryz.underlying51 hii TI TH TG rfl (by decide) _ L.length (YE L) rfl (H.out.own.alloc _) ⟨V.heap.size, 0, none⟩ 1 1 [.int .i64 op, .int .i64 a, .int .i64 b] rfl rfl ?c1 ?c2 (by decide) ?c3 ?c4 ?c5 _ rfl ?_)
 case c1 => exact World.news_of_block (cs := #[.int .i64 op, .int .i64 a, .int .i64 b]) (ZV V _)
 case c2 => intro u hu; simp at hu; rcases hu with rfl | rfl | rfl <;> rfl
 case c3 => unfold maxLen; omega
 case c4 => omega
 case c5 => simp; omega
 intro g cap w4 Vl WS OO Kv
 have hg3 := Z8 V (.cells #[.int .i64 op, .int .i64 a, .int .i64 b] 59)
 have hown0 := Zw H.out.own
 have DI := Z6 H.out.blk
 have gW := (WS.block wb (by simp; omega) (fun e => by have := (hown0 wb e.symm).1; omega)).trans ((hg3.block wb DI (by nofun)).trans H.out.blk)
 obtain ⟨d0, d1⟩ := V9 gW
 have fz : w4.frozen? ⟨wb, 0, none⟩ = false := Lib.frozen_of_heap gW 0
 have hE := ((Em.free (wb := wb) (r := (Value.slice ca cn cc).ownBlock) hg3).trans (Em.grown WS (r' := some g) (by
  rcases OO with e | e
  ·exact .inl e.symm
  ·exact .inr ⟨g, rfl, by simp; omega⟩))).trans (Em.set w4 0 (.slice (some ⟨g, 0, none⟩) (L.length + 1) cap) (some g))
 have gW2 := ZL (i := 0) gW (.slice (some ⟨g, 0, none⟩) (L.length + 1) cap)
 have hown5 : w4.ownsRow B 59 3 (.slice (some ⟨g, 0, none⟩) (L.length + 1) cap) (L ++ [(⟨op, a, b⟩ : Ins)]).length (YE (L ++ [(⟨op, a, b⟩ : Ins)])) := by rw [OQ, List.length_append]; exact Vl
 have hown6 := Zx hown5 (Zv w4 wb 0 (.slice (some ⟨g, 0, none⟩) (L.length + 1) cap)) (fun k hk e => by cases hk; have := (Zw hown5 _ e).1; omega)
 have HR : Hid (Qe wb mb B (.slice ca cn cc) (L ++ [⟨op, a, b⟩]) V (w4.setCell ⟨wb, 0, none⟩ (.slice (some ⟨g, 0, none⟩) (L.length + 1) cap))) := ⟨_, ⟨gW2, hown6, qQ⟩, hE⟩
 have s0 := (V9 gW2).1
 clear hE Vl hown5 hown6 WS OO hg3 hown0 gW c0 c1
 go_wp2
 go_ret
 exact ⟨⟨_, rfl⟩, HR.out⟩
theorem zQ (wb mb B : Nat) (cv : Value) (L : List Ins) (V : World) (h : MH V wb mb B cv L) (hB : B <= V.heap.size) (hL : L.length <= 1000) :
 Calls Tryz.prog 55 #[.pointer (some ⟨wb, 0, none⟩), U5 21 0, .int .i64 1] V fun e V' => e = .returned (.tuple #[]) /\ Qe wb mb B cv (L ++ [⟨3, 0, 0⟩]) V V' := by
 unfold U5
 have hg := Z8 V (.cells #[.int .i64 21, .int .i64 0, .string ⟨#[]⟩, .slice none 0 0] 36)
 have h2 := h.free hg
 have hE1 := Em.free (wb := wb) (r := cv.ownBlock) hg
 have hB2 : B <= (V.alloc (.cells #[.int .i64 21, .int .i64 0, .string ⟨#[]⟩, .slice none 0 0] 36)).heap.size := by simp; omega
 go_in
 go_wp2_with fail
 refine (OP wb mb B cv L _ _ _ _ h2 hB2 hL).mono ?_
 rintro e V2 ⟨⟨r, rfl⟩, cv', hW, hE⟩
 have HR : Hid (Qe wb mb B cv (L ++ [⟨3, 0, 0⟩]) V V2) := ⟨cv', hW, hE1.trans hE⟩
 clear hW hE hE1
 go_wp2_with fail
 go_end0
 exact ⟨rfl, HR.out⟩
theorem qP (wb mb B : Nat) (cv : Value) (L : List Ins) (V : World) (h : MH V wb mb B cv L) (hB : B <= V.heap.size) (hL : L.length <= 1000) :
 Calls Tryz.prog 55 #[.pointer (some ⟨wb, 0, none⟩), U5 2 1, .int .i64 1] V fun e V' => e = .returned (.tuple #[]) /\ Qe wb mb B cv (L ++ [⟨1, 1, 0⟩]) V V' := by
 unfold U5
 have hg := Z8 V (.cells #[.int .i64 2, .int .i64 1, .string ⟨#[]⟩, .slice none 0 0] 36)
 have h2 := h.free hg
 have hE1 := Em.free (wb := wb) (r := cv.ownBlock) hg
 have hB2 : B <= (V.alloc (.cells #[.int .i64 2, .int .i64 1, .string ⟨#[]⟩, .slice none 0 0] 36)).heap.size := by simp; omega
 go_in
 go_wp2_with fail
 refine (OP wb mb B cv L _ _ _ _ h2 hB2 hL).mono ?_
 rintro e V2 ⟨⟨r, rfl⟩, cv', hW, hE⟩
 have HR : Hid (Qe wb mb B cv (L ++ [⟨1, 1, 0⟩]) V V2) := ⟨cv', hW, hE1.trans hE⟩
 clear hW hE hE1
 go_wp2_with fail
 go_end0
 exact ⟨rfl, HR.out⟩
theorem qO (wb mb B B0 : Nat) (cv : Value) (V : World) (h : MH V wb mb B cv []) (hB : B <= V.heap.size) (hN : Wt V B0) (h0 : B0 < wb) :
 Calls Tryz.prog 84 #[.pointer (some ⟨wb, 0, none⟩), .slice (some ⟨B0, 0, none⟩) 2 2, .int .i64 1] V fun e V' => e = .returned (.tuple #[]) /\ Qe wb mb B cv [⟨3, 0, 0⟩, ⟨1, 1, 0⟩] V V' := by
 have H0 := Z9 h
 have HE0 := Z9 (Em.refl wb V cv.ownBlock)
 clear h
 go_in
 go_wp2_with fail
 go_loopw [10] (fun i wr => ∃ (k : Nat) (cv' : Value), i = .int .i64 k /\ k <= 2 /\ Hid (MH wr wb mb B cv' ([(⟨3, 0, 0⟩ : Ins), ⟨1, 1, 0⟩].take k)) /\ Hid (Em wb V wr cv.ownBlock cv'.ownBlock)) (fun i _ => 2 - (intOf i).toNat)
 case atStart => exact ⟨0, cv, rfl, by decide, H0, HE0⟩
 case round =>
  obtain ⟨k, cv', rfl, hk, HW, HE⟩ := hrel; have hsz := HE.out.size; have hc := Zw H0.out.own; have DI := Z6 hN; have hN2 : Wt wr B0 := (HE.out.kept B0 DI (by omega) (fun e => by have := (hc B0 e).1; have := H0.out.lt; omega)).trans hN; obtain ⟨c0, c1, c2, c3, c4, c5, c6, c7⟩ := hN2.cells; rcases (by omega : k = 0 \/ k = 1 \/ k = 2) with rfl | rfl | rfl
  ·have gL3 := ZV wr (.cells #[.int .i64 21, .int .i64 0, .string ⟨#[]⟩, .slice none 0 0] 36)
   obtain ⟨l0, l1, l2, l3⟩ := X9 gL3; have hg := Z8 wr (.cells #[.int .i64 21, .int .i64 0, .string ⟨#[]⟩, .slice none 0 0] 36); have hW2 := HW.out.free hg; have hE2 := HE.out.trans (Em.free (wb := wb) (r := cv'.ownBlock) hg); have hX := Z9 (zQ wb mb B cv' [] _ hW2 (by simp; omega) (by simp)); clear hW2 gL3 hg; go_wp2_with fail; refine hX.out.mono ?_; rintro e w2 ⟨rfl, cv2, hW3, hE3⟩; have HW3 := Z9 hW3; have HE3 := Z9 (hE2.trans hE3); clear hE2 hW3 hE3 hX c0 c1 c2 c3 c4 c5 c6 c7 hN2 l0 l1 l2 l3; go_wp2_with fail; go_round
   case rel => exact ⟨0 + 1, cv2, rfl, by decide, HW3, HE3⟩
   case measure => simp [intOf]
  ·have gL3 := ZV wr (.cells #[.int .i64 2, .int .i64 1, .string ⟨#[]⟩, .slice none 0 0] 36)
   obtain ⟨l0, l1, l2, l3⟩ := X9 gL3; have hg := Z8 wr (.cells #[.int .i64 2, .int .i64 1, .string ⟨#[]⟩, .slice none 0 0] 36); have hW2 := HW.out.free hg; have hE2 := HE.out.trans (Em.free (wb := wb) (r := cv'.ownBlock) hg); have hX := Z9 (qP wb mb B cv' [⟨3, 0, 0⟩] _ hW2 (by simp; omega) (by simp)); clear hW2 gL3 hg; go_wp2_with fail; refine hX.out.mono ?_; rintro e w2 ⟨rfl, cv2, hW3, hE3⟩; have HW3 := Z9 hW3; have HE3 := Z9 (hE2.trans hE3); clear hE2 hW3 hE3 hX c0 c1 c2 c3 c4 c5 c6 c7 hN2 l0 l1 l2 l3; go_wp2_with fail; go_round
   case rel => exact ⟨1 + 1, cv2, rfl, by decide, HW3, HE3⟩
   case measure => simp [intOf]
  ·go_wp2_with fail
   go_end0; exact ⟨rfl, cv', HW.out, HE.out⟩
theorem vW (wb mb B B0 : Nat) (cv : Value) (V : World) (h : MH V wb mb B cv []) (hB : B <= V.heap.size) (hN : Wt V B0) (h0 : B0 < wb) :
 Calls Tryz.prog 55 #[.pointer (some ⟨wb, 0, none⟩), Sv B0, .int .i64 1] V fun e V' => e = .returned (.tuple #[]) /\ Qe wb mb B cv [⟨3, 0, 0⟩, ⟨1, 1, 0⟩, ⟨15, 1, 0⟩] V V' := by
 unfold Sv
 have hg := Z8 V (.cells #[.int .i64 12, .int .i64 1, .string ⟨#[]⟩, .slice (some ⟨B0, 0, none⟩) 2 2] 36)
 have gP := ZV V (.cells #[.int .i64 12, .int .i64 1, .string ⟨#[]⟩, .slice (some ⟨B0, 0, none⟩) 2 2] 36)
 have h2 := h.free hg
 have hE1 := Em.free (wb := wb) (r := cv.ownBlock) hg
 have hN2 := hN.below (TT B0 V)
 have hB2 : B <= (V.alloc (.cells #[.int .i64 12, .int .i64 1, .string ⟨#[]⟩, .slice (some ⟨B0, 0, none⟩) 2 2] 36)).heap.size := by simp; omega
 have hc := Zw h.own
 have qQ := Z6 h.blk
 have HX := Z9 (qO wb mb B B0 cv _ h2 hB2 hN2 h0)
 have hlt := Z6 gP
 clear hg
 go_in
 go_wp2_with fail
 refine HX.out.mono ?_
 rintro e V2 ⟨rfl, cv2, hW2, hE2⟩
 have gP2 := (hE2.kept V.heap.size hlt (by omega) (fun e => by have := (hc _ e).2; omega)).trans gP
 obtain ⟨p0, p1, p2, p3⟩ := X9 gP2
 have hsz := hE2.size
 have HM := Z9 (OP wb mb B cv2 _ 15 1 0 V2 hW2 (by omega) (by simp))
 have HE := Z9 (hE1.trans hE2)
 clear hE1 hE2 hW2 gP gP2 HX hN2 h2
 go_wp2_with fail
 refine HM.out.mono ?_
 rintro e V3 ⟨⟨r, rfl⟩, cv3, hW3, hE3⟩
 have HR : Hid (Qe wb mb B cv [⟨3, 0, 0⟩, ⟨1, 1, 0⟩, ⟨15, 1, 0⟩] V V3) := ⟨cv3, hW3, HE.out.trans hE3⟩
 clear hW3 hE3
 go_wp2_with fail
 go_end0
 exact ⟨rfl, HR.out⟩
def Vb : List Ins := [⟨3, 0, 0⟩, ⟨1, 1, 0⟩, ⟨15, 1, 0⟩, ⟨9, 0, 0⟩]
theorem vV : Reach Vb 0 0 /\ Reach Vb 1 1 /\ Reach Vb 2 2 /\ Reach Vb 3 1 := by
 have r0 : Reach Vb 0 0 := .start
 have r1 : Reach Vb 1 1 := Reach.step (t := 1) r0 (by unfold Pb; decide) (by decide)
 have r2 : Reach Vb 2 2 := Reach.step (t := 2) r1 (by unfold Pb; decide) (by decide)
 have r3 : Reach Vb 3 1 := Reach.step (t := 3) r2 (by unfold Pb; decide) (by decide)
 exact ⟨r0, r1, r2, r3⟩
theorem Gn : TA Vb 2 0 := by
 obtain ⟨r0, r1, r2, r3⟩ := vV
 have hI : Inv Vb [0, 1, 2, 1] [] 2 none 0 := by
  refine ⟨rfl, rfl, fun a ha hne => ?_, fun t ht => (by cases ht), fun a ha hne _ _ => ?_, by decide, .inr ⟨2, 2, r2, .inl rfl⟩, fun c hc => (by cases hc)⟩
  ·have ha' : a < 4 := ha
   rcases (by omega : a = 0 \/ a = 1 \/ a = 2 \/ a = 3) with rfl | rfl | rfl | rfl
   ·exact ⟨by decide, r0, by decide⟩
   ·exact ⟨by decide, r1, by decide⟩
   ·exact ⟨by decide, r2, by decide⟩
   ·exact ⟨by decide, r3, by decide⟩
  ·have ha' : a < 4 := ha
   rcases (by omega : a = 0 \/ a = 1 \/ a = 2 \/ a = 3) with rfl | rfl | rfl | rfl <;> (unfold Pb; decide)
 exact hI.end (by decide)
theorem LG : (Tryz.prog.info? 53).map (·.size) = some 4 := by kernel_rfl
theorem mF {V : World} {R : Nat} {x y z u : Value} (h : V.heap[R]? = some (.cells #[x, y, z, u] 53 (0, 0))) (a b c d : Value) : ((((V.setCell ⟨R, 0, none⟩ a).setCell ⟨R, 1, none⟩ b).setCell ⟨R, 2, none⟩ c).setCell ⟨R, 3, none⟩ d).heap[R]? = some (.cells #[a, b, c, d] 53 (0, 0)) /\ V.grownBy ((((V.setCell ⟨R, 0, none⟩ a).setCell ⟨R, 1, none⟩ b).setCell ⟨R, 2, none⟩ c).setCell ⟨R, 3, none⟩ d) (some R) :=
 ⟨ZL (ZL (ZL (ZL h _) _) _) _, VD (VD (VD (Zv V R 0 a) (Zv _ R 1 b)) (Zv _ R 2 c)) (Zv _ R 3 d)⟩
def aH (w : World) (e : Ending) (w' : World) : Prop := ∃ ca cc, e = .returned (.tuple #[.agg #[.int .i64 0, .int .i64 1, .int .i64 2, .slice ca 4 cc], .int .i64 0]) /\ Below w.heap.size w w'
theorem vU (B0 : Nat) (w : World) (h : Wt w B0) : Calls Tryz.prog 23 #[Nc B0, .slice none 0 0] w (aH w) := by
 unfold Nc
 have hmm := @run_makeMap Tryz.prog
 have hb : Below w.heap.size w ((w.alloc (.cells #[.int .i64 0, .int .i64 12, .int .i64 1, .string ⟨#[]⟩, .slice (some ⟨B0, 0, none⟩) 2 2] 38)).alloc (.cells #[.int .i64 0, .int .i64 0, .int .i64 0, .slice none 0 0] 53)) := ((Below.refl _ _).alloc (Nat.le_refl _) _).alloc (by simp) _
 have gP : ((w.alloc (.cells #[.int .i64 0, .int .i64 12, .int .i64 1, .string ⟨#[]⟩, .slice (some ⟨B0, 0, none⟩) 2 2] 38)).alloc (.cells #[.int .i64 0, .int .i64 0, .int .i64 0, .slice none 0 0] 53)).heap[w.heap.size]? = some (.cells #[.int .i64 0, .int .i64 12, .int .i64 1, .string ⟨#[]⟩, .slice (some ⟨B0, 0, none⟩) 2 2] 38 (0, 0)) := (Below.heap_alloc _ _ _ (by simp)).trans (ZV w _)
 have gR : ((w.alloc (.cells #[.int .i64 0, .int .i64 12, .int .i64 1, .string ⟨#[]⟩, .slice (some ⟨B0, 0, none⟩) 2 2] 38)).alloc (.cells #[.int .i64 0, .int .i64 0, .int .i64 0, .slice none 0 0] 53)).heap[w.heap.size + 1]? = some (.cells #[.int .i64 0, .int .i64 0, .int .i64 0, .slice none 0 0] 53 (0, 0)) := (congrArg _ (by simp)).trans (ZV (w.alloc _) _)
 have hN := h.below hb
 have hN0 := Z6 h
 clear h
 go_in
 go_upto_region 1 with fail
 generalize ((w.alloc (.cells #[.int .i64 0, .int .i64 12, .int .i64 1, .string ⟨#[]⟩, .slice (some ⟨B0, 0, none⟩) 2 2] 38)).alloc (.cells #[.int .i64 0, .int .i64 0, .int .i64 0, .slice none 0 0] 53)) = W at *
 obtain ⟨p0, p1, p2, p3, p4⟩ := WY gP
 go_wp2_with fail
 refine (Nb B0 _ hN).mono ?_
 rintro e w2 ⟨rfl, hb2⟩
 have gP2 := (hb2.block _ (Z6 gP)).trans gP
 have gR2 := (hb2.block _ (Z6 gR)).trans gR
 have hN2 := hN.below hb2
 have hbb := hb.trans (hb2.mono hb.size)
 clear gP gR hN hb hb2 p0 p1 p2 p3 p4
 go_wp2_with fail
 generalize hw3 : (w2.alloc (.map #[] 0)) = w3
 generalize hw4 : (w3.alloc (.cells #[.slice none 0 0, .map (some w2.heap.size)] 120)) = w4
 have hg1 : w2.grownBy w3 none := hw3 ▸ Z8 w2 _
 have hg2 : w3.grownBy w4 none := hw4 ▸ Z8 w3 _
 have hz3 : w3.heap.size = w2.heap.size + 1 := by subst hw3; simp
 have hz4 : w4.heap.size = w2.heap.size + 1 + 1 := by subst hw4; simp [hz3]
 have gW4 : w4.heap[w2.heap.size + 1]? = some (.cells #[.slice none 0 0, .map (some w2.heap.size)] 120 (0, 0)) := by subst hw4; rw [<- hz3]; exact ZV w3 _
 clear hw3 hw4
 have hl0 := hbb.size
 have hl1 := Z6 gP2
 have hl2 := Z6 gR2
 have hgN := VD hg1 hg2
 have gP4 := (hgN.block _ hl1 (by nofun)).trans gP2
 have gR4 := (hgN.block _ hl2 (by nofun)).trans gR2
 have hN4 := hN2.below (ZX hgN (Nat.le_refl _) (by nofun))
 have hb4 := hbb.trans (ZX (B := w.heap.size) hgN hl0 (by nofun))
 have HW4 : Hid (MH w4 (w2.heap.size + 1) w2.heap.size (w2.heap.size + 1 + 1) (.slice none 0 0) []) := ⟨gW4, World.ownsRow_nil _ _ _ _, Nat.lt_succ_self _⟩
 have hBz : w2.heap.size + 1 + 1 <= w4.heap.size := by omega
 clear hg1 hg2 gW4 hgN gP2 gR2 hN2 hbb
 generalize w2.heap.size = wm at *
 clear hz3 hz4
 have HX := Z9 (vW (wm + 1) wm (wm + 1 + 1) B0 (.slice none 0 0) w4 HW4.out hBz hN4 (by omega))
 go_loop [27] (fun i => i = .int .i64 0) (fun _ => 0)
 case atStart => rfl
 case round =>
  subst hrel; obtain ⟨p0, p1, p2, p3, p4⟩ := WY gP4; go_wp2_with fail; refine HX.out.mono ?_; rintro e w5 ⟨rfl, cv5, hW5, hE5⟩; have gP5 := (hE5.kept _ (Z6 gP4) (by omega) (by nofun)).trans gP4; have gR5 := (hE5.kept _ (Z6 gR4) (by omega) (by nofun)).trans gR4; have hs5 := hE5.size; have hb5 := hb4.trans (hE5.below (B := w.heap.size) (by omega) (by omega) (by nofun)); have hc5 := Zw hW5.own; have HM := Z9 (OP (wm + 1) wm (wm + 1 + 1) cv5 _ 9 0 0 w5 hW5 (by omega) (by simp)); clear p0 p1 p2 p3 p4 gP4 gR4 hE5 hW5 HX HW4 hN4 hb4; go_wp2_with fail; refine HM.out.mono ?_; rintro e w6 ⟨⟨r0, rfl⟩, cv6, hW6, hE6⟩; have gP6 := (hE6.kept _ (Z6 gP5) (by omega) (fun e => by have := (hc5 _ e).1; omega)).trans gP5; have gR6 := (hE6.kept _ (Z6 gR5) (by omega) (fun e => by have := (hc5 _ e).1; omega)).trans gR5; have hs6 := hE6.size; have hb6 := hb5.trans (hE6.below (B := w.heap.size) (by omega) (by omega) (fun k e => by have := (hc5 _ e).1; omega)); have hI6 : VE w6 cv6 Vb := Xn hW6.own; have hd6 := NM cv6 Vb w6 hI6 (by decide); have gW6 := hW6.blk; obtain ⟨ca, cc, rfl, _⟩ := hI6; have HD := Z9 hd6; obtain ⟨s0, s1⟩ := V9 gW6; clear hd6 hE6 hW6 HM gP5 gR5 hb5 hc5; go_wp2_with fail; refine HD.out.mono ?_; rintro e w7 ⟨r, er, rfl, DF, hb7⟩; obtain ⟨rfl, rfl⟩ := BG _ _ _ _ _ DF Gn; have gP7 := (hb7.block _ (Z6 gP6)).trans gP6; have gR7 := (hb7.block _ (Z6 gR6)).trans gR6; have gW7 := (hb7.block _ (Z6 gW6)).trans gW6; have hbe := hb6.trans (hb7.mono hb6.size); clear gP6 gR6 gW6 s0 s1 hb6 hb7 HD; obtain ⟨p0, p1, p2, p3, p4⟩ := WY gP7; obtain ⟨s0, s1⟩ := V9 gW7; have hfz : w7.frozen? ⟨w.heap.size + 1, 0, none⟩ = false := Lib.frozen_of_heap gR7 0; obtain ⟨q0, q1, q2, q3⟩ := WQ gR7; go_upto_region 17 with fail; obtain ⟨gr, hgr⟩ := mF gR7 (.int .i64 0) (.int .i64 1) (.int .i64 2) (.slice ca Vb.length cc); have hbf := hbe.trans (ZX (B := w.heap.size) hgr (by have := hbe.size; omega) (fun k hk => by cases hk; omega)); have DC : w7.frozen? ⟨w.heap.size + 1, 1, none⟩ = false := Lib.frozen_of_heap gR7 1; have Dz : w7.frozen? ⟨w.heap.size + 1, 2, none⟩ = false := Lib.frozen_of_heap gR7 2; have jg : w7.frozen? ⟨w.heap.size + 1, 3, none⟩ = false := Lib.frozen_of_heap gR7 3; have HG := Z9 gr; clear hgr hbe gr; go_region
  all_goals go_wp2_with fail
  all_goals
   have hg1 := HG.out; refine Y4 (v := .tuple #[.agg #[.int .i64 0, .int .i64 1, .int .i64 2, .slice ca 4 cc], .int .i64 0]) ?_ rfl ⟨ca, cc, rfl, hbf.drew⟩; rw [results_cell_tmp (p := 4) (u := 5) (ty := 53) rfl]; simp [asAddr, run_loadVar_row (((((w7.setCell { block := w.heap.size + 1, off := 0 } (Value.int IntKind.i64 0)).setCell
    { block := w.heap.size + 1, off := 1 } (Value.int IntKind.i64 1)).setCell
    { block := w.heap.size + 1, off := 2 } (Value.int IntKind.i64 2)).setCell
    { block := w.heap.size + 1, off := 3 } (Value.slice ca Vb.length cc)).drew) _ _ _ _ _ _ hg1 Tryz.underlying53 rfl LG, Result.andThen]
   try rfl
theorem OM {fn : Func} {p u v : Tmp} {ty : TypeId} (h : fn.results = #[.cell p ty, .tmp u, .tmp v]) (tmps : Array Value) (P : Program) (w : World) :
 (results fn tmps).run P w =
   ((asAddr (tmps.getD p undef)).run P w).andThen fun a w₁ => ((loadVar ty a).run P w₁).andThen fun x w₂ => .ok (.tuple #[x, tmps.getD u undef, tmps.getD v undef]) w₂ := by
 simp only [results, h]
 simp [Sem.run_bind, Result.andThen]
def jf (w : World) (e : Ending) (w' : World) : Prop := ∃ ca cc, e = .returned (.tuple #[.agg #[.int .i64 0, .int .i64 1, .int .i64 2, .slice ca 4 cc], .slice none 0 0, .int .i64 0]) /\ Below w.heap.size w w'
theorem vT (B0 : Nat) (w : World) (h : Wt w B0) : Calls Tryz.prog 14 #[Nc B0, .slice none 0 0] w (jf w) := by
 unfold Nc
 have hb : Below w.heap.size w ((w.alloc (.cells #[.int .i64 0, .int .i64 12, .int .i64 1, .string ⟨#[]⟩, .slice (some ⟨B0, 0, none⟩) 2 2] 38)).alloc (.cells #[.int .i64 0, .int .i64 0, .int .i64 0, .slice none 0 0] 53)) := ((Below.refl _ _).alloc (Nat.le_refl _) _).alloc (by simp) _
 have gP : ((w.alloc (.cells #[.int .i64 0, .int .i64 12, .int .i64 1, .string ⟨#[]⟩, .slice (some ⟨B0, 0, none⟩) 2 2] 38)).alloc (.cells #[.int .i64 0, .int .i64 0, .int .i64 0, .slice none 0 0] 53)).heap[w.heap.size]? = some (.cells #[.int .i64 0, .int .i64 12, .int .i64 1, .string ⟨#[]⟩, .slice (some ⟨B0, 0, none⟩) 2 2] 38 (0, 0)) := (Below.heap_alloc _ _ _ (by simp)).trans (ZV w _)
 have gR : ((w.alloc (.cells #[.int .i64 0, .int .i64 12, .int .i64 1, .string ⟨#[]⟩, .slice (some ⟨B0, 0, none⟩) 2 2] 38)).alloc (.cells #[.int .i64 0, .int .i64 0, .int .i64 0, .slice none 0 0] 53)).heap[w.heap.size + 1]? = some (.cells #[.int .i64 0, .int .i64 0, .int .i64 0, .slice none 0 0] 53 (0, 0)) := (congrArg _ (by simp)).trans (ZV (w.alloc _) _)
 have hN := h.below hb
 clear h
 go_in
 go_upto_region 1 with fail
 generalize ((w.alloc (.cells #[.int .i64 0, .int .i64 12, .int .i64 1, .string ⟨#[]⟩, .slice (some ⟨B0, 0, none⟩) 2 2] 38)).alloc (.cells #[.int .i64 0, .int .i64 0, .int .i64 0, .slice none 0 0] 53)) = W at *
 obtain ⟨p0, p1, p2, p3, p4⟩ := WY gP
 go_wp2_with fail
 refine (Nb B0 _ hN).mono ?_
 rintro e w2 ⟨rfl, hb2⟩
 have gP2 := (hb2.block _ (Z6 gP)).trans gP
 have gR2 := (hb2.block _ (Z6 gR)).trans gR
 have hN2 := hN.below hb2
 have hbb := hb.trans (hb2.mono hb.size)
 clear gP gR hN hb hb2 p0 p1 p2 p3 p4
 obtain ⟨p0, p1, p2, p3, p4⟩ := WY gP2
 have hg3 := Z8 w2 (.cells #[.int .i64 12, .int .i64 1, .string ⟨#[]⟩, .slice (some ⟨B0, 0, none⟩) 2 2] 36)
 have gX := ZV w2 (.cells #[.int .i64 12, .int .i64 1, .string ⟨#[]⟩, .slice (some ⟨B0, 0, none⟩) 2 2] 36)
 have gP3 := (hg3.block _ (Z6 gP2) (by nofun)).trans gP2
 have gR3 := (hg3.block _ (Z6 gR2) (by nofun)).trans gR2
 have hN3 := hN2.below (ZX hg3 (Nat.le_refl _) (by nofun))
 have hb3 := hbb.trans (ZX (B := w.heap.size) hg3 hbb.size (by nofun))
 clear hg3
 have HW := Z9 (wO B0 _ _ hN3 gX)
 go_wp2_with fail
 refine HW.out.mono ?_
 rintro e w4 ⟨rfl, hb4⟩
 have gP4 := (hb4.block _ (Z6 gP3)).trans gP3
 have gR4 := (hb4.block _ (Z6 gR3)).trans gR3
 have hN4 := hN3.below hb4
 have hbd := hb3.trans (hb4.mono hb3.size)
 clear hb4 hb3 gP3 gR3 hN3 hbb hN2 gX gR2 gP2 HW p0 p1 p2 p3 p4
 obtain ⟨p0, p1, p2, p3, p4⟩ := WY gP4
 have HF := Z9 (vU B0 w4 hN4)
 go_wp2_with fail
 refine HF.out.mono ?_
 rintro e w5 ⟨ca, cc, rfl, hb5⟩
 have gR5 := (hb5.block _ (Z6 gR4)).trans gR4
 have hbe := hbd.trans (hb5.mono hbd.size)
 clear hb5 gP4 gR4 hN4 hbd HF p0 p1 p2 p3 p4
 go_upto_region 10 with fail
 have hg6 := Z8 w5 (.cells #[.int .i64 0, .int .i64 1, .int .i64 2, .slice ca 4 cc] 53)
 have gX6 := ZV w5 (.cells #[.int .i64 0, .int .i64 1, .int .i64 2, .slice ca 4 cc] 53)
 have gR6 := (hg6.block _ (Z6 gR5) (by nofun)).trans gR5
 have hb6 := hbe.trans (ZX (B := w.heap.size) hg6 hbe.size (by nofun))
 clear hg6 hbe gR5
 generalize (w5.alloc (.cells #[.int .i64 0, .int .i64 1, .int .i64 2, .slice ca 4 cc] 53)) = w6 at *
 obtain ⟨p0, p1, p2, p3⟩ := WQ gX6
 obtain ⟨q0, q1, q2, q3⟩ := WQ gR6
 have vS : w6.frozen? ⟨w.heap.size + 1, 0, none⟩ = false := Lib.frozen_of_heap gR6 0
 have DC : w6.frozen? ⟨w.heap.size + 1, 1, none⟩ = false := Lib.frozen_of_heap gR6 1
 have Dz : w6.frozen? ⟨w.heap.size + 1, 2, none⟩ = false := Lib.frozen_of_heap gR6 2
 have jg : w6.frozen? ⟨w.heap.size + 1, 3, none⟩ = false := Lib.frozen_of_heap gR6 3
 obtain ⟨gr, hgr⟩ := mF gR6 (.int .i64 0) (.int .i64 1) (.int .i64 2) (.slice ca 4 cc)
 have hbf := hb6.trans (ZX (B := w.heap.size) hgr hb6.size (fun k hk => by cases hk; omega))
 have HG := Z9 gr
 clear hgr hb6 gr
 go_wp2_with fail
 have hg1 := HG.out
 refine Y4 (v := .tuple #[.agg #[.int .i64 0, .int .i64 1, .int .i64 2, .slice ca 4 cc], .slice none 0 0, .int .i64 0]) ?_ rfl ⟨ca, cc, rfl, hbf⟩
 rw [OM (p := 4) (u := 5) (v := 6) (ty := 53) rfl]
 simp [asAddr, run_loadVar_row _ _ _ _ _ _ _ hg1 Tryz.underlying53 rfl LG, Result.andThen]
theorem Gm (w : World) : Calls Tryz.prog 4 #[] w fun e w' => e = .returned (.bool true) /\ Below w.heap.size w w' := by
 have hb : Below w.heap.size w ((w.alloc (.cells #[.int .i64 21, .int .i64 0, .string ⟨#[]⟩, .slice none 0 0, .int .i64 2, .int .i64 1, .string ⟨#[]⟩, .slice none 0 0] 36)).alloc (.cells #[.int .i64 0, .int .i64 12, .int .i64 1, .string ⟨#[]⟩, .slice (some ⟨w.heap.size, 0, none⟩) 2 2] 38)) := ((Below.refl _ _).alloc (Nat.le_refl _) _).alloc (by simp) _
 have hN : Wt ((w.alloc (.cells #[.int .i64 21, .int .i64 0, .string ⟨#[]⟩, .slice none 0 0, .int .i64 2, .int .i64 1, .string ⟨#[]⟩, .slice none 0 0] 36)).alloc (.cells #[.int .i64 0, .int .i64 12, .int .i64 1, .string ⟨#[]⟩, .slice (some ⟨w.heap.size, 0, none⟩) 2 2] 38)) w.heap.size := (Below.heap_alloc _ _ _ (by simp)).trans (ZV w _)
 have gP : ((w.alloc (.cells #[.int .i64 21, .int .i64 0, .string ⟨#[]⟩, .slice none 0 0, .int .i64 2, .int .i64 1, .string ⟨#[]⟩, .slice none 0 0] 36)).alloc (.cells #[.int .i64 0, .int .i64 12, .int .i64 1, .string ⟨#[]⟩, .slice (some ⟨w.heap.size, 0, none⟩) 2 2] 38)).heap[w.heap.size + 1]? = some (.cells #[.int .i64 0, .int .i64 12, .int .i64 1, .string ⟨#[]⟩, .slice (some ⟨w.heap.size, 0, none⟩) 2 2] 38 (0, 0)) := (congrArg _ (by simp)).trans (ZV (w.alloc _) _)
 go_in
 go_upto_region 2 with fail
 generalize ((w.alloc (.cells #[.int .i64 21, .int .i64 0, .string ⟨#[]⟩, .slice none 0 0, .int .i64 2, .int .i64 1, .string ⟨#[]⟩, .slice none 0 0] 36)).alloc (.cells #[.int .i64 0, .int .i64 12, .int .i64 1, .string ⟨#[]⟩, .slice (some ⟨w.heap.size, 0, none⟩) 2 2] 38)) = W at *
 obtain ⟨p0, p1, p2, p3, p4⟩ := WY gP
 have HF := Z9 (vT _ W hN)
 clear hN gP
 go_wp2_with fail
 refine HF.out.mono ?_
 rintro e w2 ⟨ca, cc, rfl, hb2⟩
 have hbb := hb.trans (hb2.mono hb.size)
 clear hb hb2 p0 p1 p2 p3 p4
 have hg3 := Z8 w2 (.cells #[.int .i64 0, .int .i64 1, .int .i64 2, .slice ca 4 cc] 53)
 have gX := ZV w2 (.cells #[.int .i64 0, .int .i64 1, .int .i64 2, .slice ca 4 cc] 53)
 have hb3 := hbb.trans (ZX (B := w.heap.size) hg3 hbb.size (by nofun))
 clear hg3 hbb
 go_upto_region 3 with fail
 generalize (w2.alloc (.cells #[.int .i64 0, .int .i64 1, .int .i64 2, .slice ca 4 cc] 53)) = w3 at *
 have hg4 := Z8 w3 (.cells #[.int .i64 3, .int .i64 0, .int .i64 0, .int .i64 1, .int .i64 1, .int .i64 0, .int .i64 15, .int .i64 1, .int .i64 0, .int .i64 9, .int .i64 0, .int .i64 0] 59)
 have gI := ZV w3 (.cells #[.int .i64 3, .int .i64 0, .int .i64 0, .int .i64 1, .int .i64 1, .int .i64 0, .int .i64 15, .int .i64 1, .int .i64 0, .int .i64 9, .int .i64 0, .int .i64 0] 59)
 have gX4 := (hg4.block _ (Z6 gX) (by nofun)).trans gX
 have hb4 := hb3.trans (ZX (B := w.heap.size) hg4 hb3.size (by nofun))
 have hI : VE (w3.alloc (.cells #[.int .i64 3, .int .i64 0, .int .i64 0, .int .i64 1, .int .i64 1, .int .i64 0, .int .i64 15, .int .i64 1, .int .i64 0, .int .i64 9, .int .i64 0, .int .i64 0] 59)) (.slice (some ⟨w3.heap.size, 0, none⟩) 4 4) Vb := ⟨some ⟨w3.heap.size, 0, none⟩, 4, rfl, Nat.le_refl _, fun _ => ⟨w3.heap.size, 0, rfl, by simp, fun j hj => by
  rw [Nat.zero_add, Ph]; have hj' : j < 12 := hj; rcases (by omega : j = 0 \/ j = 1 \/ j = 2 \/ j = 3 \/ j = 4 \/ j = 5 \/ j = 6 \/ j = 7 \/ j = 8 \/ j = 9 \/ j = 10 \/ j = 11) with rfl | rfl | rfl | rfl | rfl | rfl | rfl | rfl | rfl | rfl | rfl | rfl <;> rfl⟩⟩
 have HD := Z9 (NM _ _ _ hI (by decide))
 clear hg4 hb3 gX gI hI
 go_wp2_with fail
 refine HD.out.mono ?_
 rintro e w5 ⟨r, er, rfl, DF, hb5⟩
 obtain ⟨rfl, rfl⟩ := BG _ _ _ _ _ DF Gn
 have gX5 := (hb5.block _ (Z6 gX4)).trans gX4
 have hbe := hb4.trans (hb5.mono hb4.size)
 obtain ⟨q0, q1, q2, q3⟩ := WQ gX5
 clear hb5 hb4 gX4 HD
 go_wp2
 go_ret
 exact ⟨rfl, hbe⟩
end Go.Proofs.YtbcfdebdikgijaaGreatDoor
