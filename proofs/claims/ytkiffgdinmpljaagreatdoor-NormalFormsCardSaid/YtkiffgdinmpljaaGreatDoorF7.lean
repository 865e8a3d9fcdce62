/- The small functions over a node: binder, labelled, parts; the reference's Binder, parts, deep. Expanded by mac.py. What all texts of law 11 lean on: worlds, rows, strings. Constructors and kinds that are made: rows that grow, results in cells. Expanded by mac.py. Lists of kinds and of constructors under way. -/
import Derived.Test.YtkiffgdinmpljaaGreatDoorF6
import Derived.Test.YtkiffgdinmpljaaGreatDoorF4
import Derived.WalkKit
import Derived.WalkLawsBesides
import Derived.WalkSpells
import Derived.Outline
import Derived.BigQuiet
import Derived.Deep.QuietTactic
import Derived.Lib.Hide
import Derived.StillTailTactics
import Derived.Deep.WholeRow
import Derived.Maps.AppendAt
import Derived.Lib.ItoaLen
import Derived.Deep.DeepCutAuto
import Derived.Deep.RegionHeld3
import Derived.Laws.BitsAllLaws
import Derived.Laws.ResultCell
import Derived.Lib.SliceRun
import Derived.Lib.ConvBytes
import Derived.Deep.AppendLies
import Derived.Shelf.Bytes.SlEqualAll
import Derived.Test.YtkiffgdinmpljaaGreatDoorChecked
import Derived.Test.YtkiffgdinmpljaaGreatDoorLaw
import Derived.Deep.RegionLawGrows
import Derived.Laws.Rows
set_option linter.unusedVariables false
set_option linter.unusedSimpArgs false
namespace Go.Proofs.YtkiffgdinmpljaaGreatDoor
open Go Go.RowKit
set_option maxHeartbeats 8000000
set_option maxRecDepth 100000
theorem binder_any (P : Nat->Prop) (x : ConD) (w : World) (h : IsCon P w x) :
 Calls Tryz.prog 88 #[conV x] w fun e w' => e = .returned (.bool (binderB x.op))/\Below w.heap.size w w' := by
 obtain ⟨op, n, s, k, nv, ns, lv, l⟩ := x
 obtain ⟨ka, kc, kn, hks⟩ := iKQ h.parts.kind
 obtain ⟨na, nc, rfl, _⟩ := rSQ h.parts.names
 obtain ⟨a, c, rfl, _⟩ := rSQ h.parts.row
 rw [cVQ hks]
 have hll : l.length<=9223372036854775807 := by have h1 := h.parts.llen; have : maxLen = 9223372036854775807 := (by decide); omega
 have hnn : ns.length<=9223372036854775807 := by have h1 := h.parts.nlen; have : maxLen = 9223372036854775807 := (by decide); omega
 have hb0 : Below w.heap.size w (w.alloc (.cells #[.int .i64 op, .int .i64 n, .string s, .slice ka kn kc, .slice na ns.length nc, .slice a l.length c] 28)) := (Below.refl _ _).alloc (Nat.le_refl _) _
 have gC := nHQ w (.cells #[.int .i64 op, .int .i64 n, .string s, .slice ka kn kc, .slice na ns.length nc, .slice a l.length c] 28)
 have hsz0 : (w.alloc (.cells #[.int .i64 op, .int .i64 n, .string s, .slice ka kn kc, .slice na ns.length nc, .slice a l.length c] 28)).heap.size = w.heap.size + 1 := by simp
 obtain ⟨c0, c1, c2, c3, c4, c5⟩ := cnQ gC
 have HP := hJQ (iBQ h hb0).parts
 have HC0 := hJQ (iBQ h hb0)
 have hf : ∀ b, binderB op = b->Ending.returned (.bool b) = Ending.returned (.bool (binderB op)) := fun b hb => by rw [hb]
 have HF := hJQ hf
 clear hf
 show Calls _ _ _ _ fun e w' => e = .returned (.bool (binderB op))/\_
 clear h gC HP HC0 hks
 by_cases q9 : op = 9 <;> by_cases q10 : op = 10 <;> by_cases q11 : op = 11 <;> by_cases q13 : op = 13
 all_goals first | omega | skip
 all_goals
  go_enter Tryz.func88, Tryz.ntmps88
  go_wp2_with fail
  go_ret
  exact ⟨HF.out _ (by simp [binderB, *]), ((Below.refl _ _).alloc (Nat.le_refl _) _)⟩
theorem labelled_any (P : Nat->Prop) (x : ConD) (w : World) (h : IsCon P w x) :
 Calls Tryz.prog 90 #[conV x] w fun e w' => e = .returned (.bool (labelledB x.op))/\Below w.heap.size w w' := by
 obtain ⟨op, n, s, k, nv, ns, lv, l⟩ := x
 obtain ⟨ka, kc, kn, hks⟩ := iKQ h.parts.kind
 obtain ⟨na, nc, rfl, _⟩ := rSQ h.parts.names
 obtain ⟨a, c, rfl, _⟩ := rSQ h.parts.row
 rw [cVQ hks]
 have hll : l.length<=9223372036854775807 := by have h1 := h.parts.llen; have : maxLen = 9223372036854775807 := (by decide); omega
 have hnn : ns.length<=9223372036854775807 := by have h1 := h.parts.nlen; have : maxLen = 9223372036854775807 := (by decide); omega
 have hb0 : Below w.heap.size w (w.alloc (.cells #[.int .i64 op, .int .i64 n, .string s, .slice ka kn kc, .slice na ns.length nc, .slice a l.length c] 28)) := (Below.refl _ _).alloc (Nat.le_refl _) _
 have gC := nHQ w (.cells #[.int .i64 op, .int .i64 n, .string s, .slice ka kn kc, .slice na ns.length nc, .slice a l.length c] 28)
 have hsz0 : (w.alloc (.cells #[.int .i64 op, .int .i64 n, .string s, .slice ka kn kc, .slice na ns.length nc, .slice a l.length c] 28)).heap.size = w.heap.size + 1 := by simp
 obtain ⟨c0, c1, c2, c3, c4, c5⟩ := cnQ gC
 have HP := hJQ (iBQ h hb0).parts
 have HC0 := hJQ (iBQ h hb0)
 have hf : ∀ b, labelledB op = b->Ending.returned (.bool b) = Ending.returned (.bool (labelledB op)) := fun b hb => by rw [hb]
 have HF := hJQ hf
 clear hf
 show Calls _ _ _ _ fun e w' => e = .returned (.bool (labelledB op))/\_
 clear h gC HP HC0 hks
 by_cases q9 : op = 7 <;> by_cases q10 : op = 8
 all_goals first | omega | skip
 all_goals
  go_enter Tryz.func90, Tryz.ntmps90
  go_wp2_with fail
  go_ret
  exact ⟨HF.out _ (by simp [labelledB, *]), ((Below.refl _ _).alloc (Nat.le_refl _) _)⟩
theorem opBinder_any (f : Nat) (hf : f = 124 ∨ f = 105) (op : Int) (w : World) :
 Calls Tryz.prog f #[.int .i64 op] w fun e w' => e = .returned (.bool (binderB op))/\w' = w := by
 have hf' : ∀ b, binderB op = b->Ending.returned (.bool b) = Ending.returned (.bool (binderB op)) := fun b hb => by rw [hb]
 have HF := hJQ hf'
 clear hf'
 rcases hf with rfl | rfl
 ·by_cases q9 : op = 9 <;> by_cases q10 : op = 10 <;> by_cases q11 : op = 11 <;> by_cases q13 : op = 13
  all_goals first | omega | skip
  all_goals
   go_enter Tryz.func124, Tryz.ntmps124
   go_wp2_with fail
   go_ret
   exact ⟨HF.out _ (by simp [binderB, *]), rfl⟩
 ·by_cases q9 : op = 9 <;> by_cases q10 : op = 10 <;> by_cases q11 : op = 11 <;> by_cases q13 : op = 13
  all_goals first | omega | skip
  all_goals
   go_enter Tryz.func105, Tryz.ntmps105
   go_wp2_with fail
   go_ret
   exact ⟨HF.out _ (by simp [binderB, *]), rfl⟩
theorem parts_any (P : Nat->Prop) (x : ConD) (w : World) (h : IsCon P w x) :
 Calls Tryz.prog 86 #[conV x] w fun e w' => e = .returned (.int .i64 (partsC x.op x.ns.length))/\Below w.heap.size w w' := by
 obtain ⟨op, n, s, k, nv, ns, lv, l⟩ := x
 have HX := hJQ h
 obtain ⟨ka, kc, kn, hks⟩ := iKQ h.parts.kind
 obtain ⟨na, nc, rfl, _⟩ := rSQ h.parts.names
 obtain ⟨a, c, rfl, _⟩ := rSQ h.parts.row
 rw [cVQ hks]
 have hll : l.length<=9223372036854775807 := by have h1 := h.parts.llen; have : maxLen = 9223372036854775807 := (by decide); omega
 have hnn : ns.length<=9223372036854775807 := by have h1 := h.parts.nlen; have : maxLen = 9223372036854775807 := (by decide); omega
 have hb0 : Below w.heap.size w (w.alloc (.cells #[.int .i64 op, .int .i64 n, .string s, .slice ka kn kc, .slice na ns.length nc, .slice a l.length c] 28)) := (Below.refl _ _).alloc (Nat.le_refl _) _
 have gC := nHQ w (.cells #[.int .i64 op, .int .i64 n, .string s, .slice ka kn kc, .slice na ns.length nc, .slice a l.length c] 28)
 have hsz0 : (w.alloc (.cells #[.int .i64 op, .int .i64 n, .string s, .slice ka kn kc, .slice na ns.length nc, .slice a l.length c] 28)).heap.size = w.heap.size + 1 := by simp
 obtain ⟨c0, c1, c2, c3, c4, c5⟩ := cnQ gC
 have HP := hJQ (iBQ h hb0).parts
 have HC0 := hJQ (iBQ h hb0)
 have hv := cVQ (op := op) (n := n) (s := s) (nv := .slice na ns.length nc) (lv := .slice a l.length c) (ns := ns) (l := l) hks
 have hf : ∀ b, partsC op ns.length = b->Ending.returned (.int .i64 b) = Ending.returned (.int .i64 (partsC op ns.length)) := fun b hb => by rw [hb]
 have HF := hJQ hf
 clear hf
 have HL := hJQ (labelled_any P _ _ HC0.out)
 have HB : Hid (∀ W, Below w.heap.size w W->Calls Tryz.prog 88 #[(.agg #[.int .i64 op, .int .i64 n, .string s, .slice ka kn kc, .slice na ns.length nc, .slice a l.length c])] W fun e w' => e = .returned (.bool (binderB op))/\Below W.heap.size W w') := fun W hW => by
  rw [← hv]; exact binder_any P _ _ (iBQ HX.out hW)
 rw [hv] at HL
 show Calls _ _ _ _ fun e w' => e = .returned (.int .i64 (partsC op ns.length))/\_
 have HL : Hid (Calls Tryz.prog 90 #[(.agg #[.int .i64 op, .int .i64 n, .string s, .slice ka kn kc, .slice na ns.length nc, .slice a l.length c])] (w.alloc (.cells #[.int .i64 op, .int .i64 n, .string s, .slice ka kn kc, .slice na ns.length nc, .slice a l.length c] 28)) fun e w' => e = .returned (.bool (labelledB op))/\Below (w.alloc (.cells #[.int .i64 op, .int .i64 n, .string s, .slice ka kn kc, .slice na ns.length nc, .slice a l.length c] 28)).heap.size (w.alloc (.cells #[.int .i64 op, .int .i64 n, .string s, .slice ka kn kc, .slice na ns.length nc, .slice a l.length c] 28)) w') := HL
 clear h HP HC0 hks hv
 have hlt : w.heap.size < (w.alloc (.cells #[.int .i64 op, .int .i64 n, .string s, .slice ka kn kc, .slice na ns.length nc, .slice a l.length c] 28)).heap.size := by omega
 by_cases q1 : op < 1
 ·go_enter Tryz.func86, Tryz.ntmps86
  go_wp2_with fail
  go_ret
  exact ⟨HF.out _ (by simp [partsC, q1]), hb0⟩
 by_cases q13 : 13 < op
 ·go_enter Tryz.func86, Tryz.ntmps86
  go_wp2_with fail
  go_ret
  exact ⟨HF.out _ (by simp [partsC, q13]), hb0⟩
 obtain ⟨bl, hbl⟩ : ∃ b, labelledB op = b := ⟨_, rfl⟩
 rw [hbl] at HL
 have Hbl := hJQ hbl
 clear hbl
 have HBB := hJQ hb0
 go_enter Tryz.func86, Tryz.ntmps86
 go_wp2_with fail
 refine HL.out.mono ?_
 rintro e w2 ⟨rfl, hb2⟩
 have hbw := HBB.out.trans (hb2.mono HBB.out.size)
 have g2 := (hb2.block _ hlt).trans gC
 have hlt2 := hLQ g2
 obtain ⟨d0, d1, d2, d3, d4, d5⟩ := cnQ g2
 clear HL hb0 gC c0 c1 c2 c3 c4 c5
 generalize w.alloc (.cells #[.int .i64 op, .int .i64 n, .string s, .slice ka kn kc, .slice na ns.length nc, .slice a l.length c] 28) = W0 at *
 clear hb2
 cases bl
 ·obtain ⟨bb, hbb⟩ : ∃ b, binderB op = b := ⟨_, rfl⟩
  have HC := hJQ (HB.out _ hbw)
  rw [hbb] at HC
  have Hbb := hJQ hbb
  clear hbb HB
  go_wp2_with fail
  refine HC.out.mono ?_
  rintro e w3 ⟨rfl, hb3⟩
  have hbw3 := hbw.trans (hb3.mono hbw.size)
  have g3 := (hb3.block _ hlt2).trans g2
  obtain ⟨k0, k1, k2, k3, k4, k5⟩ := cnQ g3
  clear HC g2 d0 d1 d2 d3 d4 d5 hb3
  cases bb
  ·have HE : Hid (∀ b, (if op = 6 ∨ op = 12 then (2 : Int) else 0) = b->Ending.returned (.int .i64 b) = Ending.returned (.int .i64 (partsC op ns.length))) := fun b hb => HF.out b (by rw [← hb]; unfold partsC; rw [if_neg (by omega), Hbl.out, Hbb.out]; simp)
   clear HF Hbl Hbb
   go_wp2_with fail
   all_goals
    go_ret
    refine ⟨HE.out _ ?_, hbw3⟩
    first | exact if_pos (by simp_all) | exact if_neg (by simp_all)
  ·have HE := HF.out 1 (by unfold partsC; rw [if_neg (by omega), Hbl.out, Hbb.out]; simp)
   clear HF Hbl Hbb
   go_wp2_with fail
   go_ret
   exact ⟨HE, hbw3⟩
 ·have HE := HF.out ns.length (by unfold partsC; rw [if_neg (by omega), Hbl.out]; simp)
  clear HF Hbl HB
  go_wp2_with fail
  go_ret
  exact ⟨HE, hbw⟩
theorem heap_set_same {w : World} {b i : Nat} {cs : Array Value} {T : TypeId} {fr : Nat × Nat} (hb : w.heap[b]? = some (.cells cs T fr)) (v : Value) : (w.setCell ⟨b, i, none⟩ v).heap[b]? = some (.cells (cs.setIfInBounds i v) T fr) := by
 simp [World.setCell, Array.getElem?_modify, hb]
structure OnlyAt (rb : Nat) (w w' : World) : Prop where
 os : w'.os = w.os
 tape : w'.tape = w.tape
 output : w'.output = w.output
 size : w'.heap.size = w.heap.size
 block : ∀ k, k ≠ rb->w'.heap[k]? = w.heap[k]?
theorem OnlyAt.set (w : World) (rb o : Nat) (u : Value) : OnlyAt rb w (w.setCell ⟨rb, o, none⟩ u) :=
 ⟨rfl, rfl, rfl, by simp, fun k hk => Below.heap_setCell _ _ _ _ hk⟩
theorem grown_only {rb : Nat} {w w' : World} (h : OnlyAt rb w w') : w.grownBy w' (some rb) := ⟨h.os, h.tape, h.output, Nat.le_of_eq h.size.symm, fun k _ hk => h.block k (fun e => hk (by rw [e]))⟩
theorem gLQ {w w' : World} (h : Below w.heap.size w w') : w.grownBy w' none := ⟨h.os, h.tape, h.output, h.size, fun k hk _ => h.block k hk⟩
theorem gAQ (w : World) (o : Obj) : w.grownBy (w.alloc o) none := gLQ ((Below.refl _ _).alloc (Nat.le_refl _) _)
theorem gSQ (w : World) (b o : Nat) (u : Value) : w.grownBy (w.setCell ⟨b, o, none⟩ u) (some b) := grown_only (OnlyAt.set _ _ _ _)
theorem gUQ {w w' : World} {r : Option Nat} {B : Nat} (h : w.grownBy w' r) (hB : B<=w.heap.size) (hr : ∀ k, r = some k->B<=k) : Below B w w' :=
 ⟨h.os, h.tape, h.output, h.size, fun k hk => h.block k (by omega) (fun e => by have := hr k e.symm; omega)⟩
theorem gBQ {a b c : World} {r : Option Nat} (h : a.grownBy b r) (k : b.grownBy c r) : a.grownBy c r :=
 ⟨k.os.trans h.os, k.tape.trans h.tape, k.output.trans h.output, Nat.le_trans h.size k.size, fun q hq hr => (k.block q (Nat.lt_of_lt_of_le hq h.size) hr).trans (h.block q hq hr)⟩
theorem cIQ : (Tryz.prog.info? 28).map (·.size) = some 6 := by kernel_rfl
theorem kind_info : (Tryz.prog.info? 24).map (·.size) = some 1 := by kernel_rfl
theorem set1 {V : World} {R : Nat} {x0 : Value} (h : V.heap[R]? = some (.cells #[x0] 24 (0, 0))) (a : Value) : (V.setCell ⟨R, 0, none⟩ a).heap[R]? = some (.cells #[a] 24 (0, 0))/\V.grownBy (V.setCell ⟨R, 0, none⟩ a) (some R) :=
 ⟨heap_set_same h _, gSQ V R 0 a⟩
theorem frozen6 {V : World} {R : Nat} {cs : Array Value} {t : TypeId} (h : V.heap[R]? = some (.cells cs t (0, 0))) : V.frozen? ⟨R, 0, none⟩ = false/\V.frozen? ⟨R, 1, none⟩ = false/\V.frozen? ⟨R, 2, none⟩ = false/\V.frozen? ⟨R, 3, none⟩ = false/\V.frozen? ⟨R, 4, none⟩ = false/\V.frozen? ⟨R, 5, none⟩ = false :=
 ⟨Lib.frozen_of_heap h 0, Lib.frozen_of_heap h 1, Lib.frozen_of_heap h 2, Lib.frozen_of_heap h 3, Lib.frozen_of_heap h 4, Lib.frozen_of_heap h 5⟩
def ConOut (P : Nat->Prop) (x : Cn) (e : Ending) (w' : World) : Prop := ∃ d : ConD, e = .returned (conV d)/\IsCon P w' d/\pC d = x
def KindOut (P : Nat->Prop) (x : Kd) (e : Ending) (w' : World) : Prop := ∃ d : KindD, e = .returned (kindV d)/\IsKind P w' d/\pK d = x
theorem kind_nil (P : Nat->Prop) (w : World) : IsKind P w (.mk (.slice none 0 0) []) := .mk (RowP.nil P w) (Nat.zero_le maxLen) (fun y hy => by cases hy)
theorem variable_any (P : Nat->Prop) (n : Int) (w : World) : Calls Tryz.prog 69 #[.int .i64 n] w fun e w' => ConOut P (varC n) e w'/\Below w.heap.size w w' := by
 have HG := hJQ (nHQ w (.cells #[.int .i64 1, .int .i64 n, .string ⟨#[]⟩, .slice none 0 0, .slice none 0 0, .slice none 0 0] 28))
 have HB : Hid (Below w.heap.size w (w.alloc (.cells #[.int .i64 1, .int .i64 n, .string ⟨#[]⟩, .slice none 0 0, .slice none 0 0, .slice none 0 0] 28))) := (Below.refl _ _).alloc (Nat.le_refl _) _
 go_enter Tryz.func69, Tryz.ntmps69
 go_wp2_with fail
 refine bodyPost_ret (results_cell_row rfl _ _ w.heap.size 28 #[.int .i64 1, .int .i64 n, .string ⟨#[]⟩, .slice none 0 0, .slice none 0 0, .slice none 0 0] (0, 0) _ rfl HG.out Tryz.underlying28 rfl cIQ) rfl ?_
 exact ⟨⟨.mk 1 n ⟨#[]⟩ (.mk (.slice none 0 0) []) (.slice none 0 0) [] (.slice none 0 0) [], rfl, .mk (kind_nil _ _) (RowP.nil _ _) (Nat.zero_le maxLen) (RowP.nil _ _) (Nat.zero_le maxLen) (fun y hy => by cases hy), by rw [pMQ, pureK_mk]; rfl⟩, HB.out⟩
theorem gDQ (w : World) : w.grownBy w.drew none := ⟨rfl, rfl, rfl, Nat.le_refl _, fun _ _ _ => rfl⟩
theorem info_kind : (Tryz.prog.info? 24).map (fun i => (i.zero, i.size, i.bytes)) = some (some (.agg #[.slice none 0 0]), 1, 24) := by kernel_rfl
theorem info_con : (Tryz.prog.info? 28).map (fun i => (i.zero, i.size, i.bytes)) = some (some (.agg #[.int .i64 0, .int .i64 0, .string ⟨#[]⟩, .slice none 0 0, .slice none 0 0, .slice none 0 0]), 6, 104) := by kernel_rfl
theorem IsKind.lt {P : Nat->Prop} {w : World} {k : KindD} (h : IsKind P w k) : IsKind (fun b => P b/\b < w.heap.size) w k := h.mono fun _ hp hlt => ⟨hp, hlt⟩
theorem IsCon.lt {P : Nat->Prop} {w : World} {k : ConD} (h : IsCon P w k) : IsCon (fun b => P b/\b < w.heap.size) w k := h.mono fun _ hp hlt => ⟨hp, hlt⟩
theorem kindCells_app (a b : List KindD) : kindCells (a ++ b) = kindCells a ++ kindCells b := by simp [kindCells]
theorem conCells_app (a b : List ConD) : cCQ (a ++ b) = cCQ a ++ cCQ b := by simp [cCQ]
structure MkK (V : World) (B R : Nat) (cv : Value) (ds : List KindD) : Prop where
 cell : V.heap[R]? = some (.cells #[cv] 24 (0, 0))
 own : V.ownsRow B 24 1 cv ds.length (kindCells ds)
 els : ∀ y ∈ ds, IsKind (fun b => B<=b/\cv.ownBlock ≠ some b) V y
 lo : R < B
 lt : B<=V.heap.size
theorem MkK.grown {V V' : World} {B R : Nat} {cv : Value} {ds : List KindD} (h : MkK V B R cv ds) (hg : V.grownBy V' none) : MkK V' B R cv ds :=
 ⟨(hg.block _ (hLQ h.cell) (by nofun)).trans h.cell, h.own.kept hg (by cases cv.ownBlock <;> simp), fun y hy => (h.els y hy).grown hg (by nofun), h.lo, Nat.le_trans h.lt hg.size⟩
theorem MkK.slice {V : World} {B R : Nat} {cv : Value} {ds : List KindD} (h : MkK V B R cv ds) : ∃ a c, cv = .slice a ds.length c := by
 obtain ⟨_, h2⟩ := h.own
 rcases h2 with ⟨rfl, h0⟩ | ⟨g, cap, cur, rfl, _⟩
 ·exact ⟨none, 0, by rw [h0]⟩
 ·exact ⟨_, _, rfl⟩
theorem MkK.push {V w4 : World} {B R : Nat} {cv : Value} {ds : List KindD} {y : KindD} {o : Obj} {gN cN : Nat} (h : MkK V B R cv ds) (hy : IsKind (fun b => B<=b/\cv.ownBlock ≠ some b) V y)
 (hown : w4.ownsRow B 24 1 (.slice (some ⟨gN, 0, none⟩) (ds.length + 1) cN) (ds.length + 1) (kindCells ds ++ [y.v])) (hg : (V.alloc o).grownBy w4 cv.ownBlock) (hat : cv.ownBlock = some gN ∨ gN = (V.alloc o).heap.size) :
 MkK (w4.setCell ⟨R, 0, none⟩ (.slice (some ⟨gN, 0, none⟩) (ds.length + 1) cN)) B R (.slice (some ⟨gN, 0, none⟩) (ds.length + 1) cN) (ds ++ [y]) := by
 have hlt := hLQ h.cell
 have hol : ∀ b, cv.ownBlock = some b->B<=b := fun b hb => (h.own.lt b hb).1
 have hlo := h.lo
 have hblt := h.lt
 have hsz : (V.alloc o).heap.size = V.heap.size + 1 := by simp
 have hgs := hg.size
 have hR4 : w4.heap[R]? = some (.cells #[cv] 24 (0, 0)) := by
  rw [hg.block R (by omega) (fun e => by have := hol R e.symm; omega), ← h.cell]
  exact (gAQ V o).block R hlt (by nofun)
 have hgN : B<=gN := by
  rcases hat with e | e
  ·exact hol _ e
  ·omega
 have hset := gSQ w4 R 0 (.slice (some ⟨gN, 0, none⟩) (ds.length + 1) cN)
 refine ⟨(set1 hR4 _).1, ?_, ?_, hlo, ?_⟩
 ·rw [List.length_append, kindCells_app]
  exact hown.kept hset (.inr (fun e => by have e2 : gN = R := oJQ e; omega))
 ·intro z hz
  have hz' : IsKind (fun b => B<=b/\cv.ownBlock ≠ some b) V z := by
   rcases List.mem_append.1 hz with hz | hz
   ·exact h.els z hz
   ·rw [List.mem_singleton.1 hz]; exact hy
  have hk : IsKind (fun b => (B<=b/\cv.ownBlock ≠ some b)/\b < V.heap.size) (w4.setCell ⟨R, 0, none⟩ (.slice (some ⟨gN, 0, none⟩) (ds.length + 1) cN)) z := by
   refine hz'.lt.keep (by have := hset.size; omega) (fun b hb hlt => ?_)
   rw [hset.block b (by omega) (fun e => by have := oJQ e; omega), hg.block b (by omega) (fun e => hb.1.2 e.symm)]
   exact (gAQ V o).block b hlt (by nofun)
  refine hk.mono (fun b hb _ => ⟨hb.1.1, fun e => ?_⟩)
  have e : gN = b := oJQ e
  rcases hat with e2 | e2
  ·exact hb.1.2 (by rw [e2, e])
  ·omega
 ·have := hset.size; omega
structure MkC (P : Nat->Prop) (V : World) (B R : Nat) (h0 h1 h2 h3 h4 cv : Value) (ds : List ConD) : Prop where
 cell : V.heap[R]? = some (.cells #[h0, h1, h2, h3, h4, cv] 28 (0, 0))
 own : V.ownsRow B 28 6 cv ds.length (cCQ ds)
 els : ∀ y ∈ ds, IsCon (fun b => (P b/\b ≠ R)/\cv.ownBlock ≠ some b) V y
 lo : R < B
 lt : B<=V.heap.size
theorem MkC.grown {P : Nat->Prop} {V V' : World} {B R : Nat} {h0 h1 h2 h3 h4 cv : Value} {ds : List ConD} {r : Option Nat} (h : MkC P V B R h0 h1 h2 h3 h4 cv ds) (hg : V.grownBy V' r) (hr : ∀ q, r = some q->¬ P q/\q ≠ R/\cv.ownBlock ≠ some q) : MkC P V' B R h0 h1 h2 h3 h4 cv ds :=
 ⟨(hg.block _ (hLQ h.cell) (fun e => (hr _ e.symm).2.1 rfl)).trans h.cell, h.own.kept hg (by
   cases r with
   | none => cases cv.ownBlock <;> simp
   | some q => exact .inr (hr q rfl).2.2), fun y hy => (h.els y hy).grown hg (fun q e hq => (hr q e).1 hq.1.1), h.lo, Nat.le_trans h.lt hg.size⟩
theorem MkC.slice {P : Nat->Prop} {V : World} {B R : Nat} {h0 h1 h2 h3 h4 cv : Value} {ds : List ConD} (h : MkC P V B R h0 h1 h2 h3 h4 cv ds) : ∃ a c, cv = .slice a ds.length c := by
 obtain ⟨_, h2⟩ := h.own
 rcases h2 with ⟨rfl, h0⟩ | ⟨g, cap, cur, rfl, _⟩
 ·exact ⟨none, 0, by rw [h0]⟩
 ·exact ⟨_, _, rfl⟩
theorem MkC.nil {P : Nat->Prop} {V : World} {B R : Nat} {h0 h1 h2 h3 h4 : Value} (hc : V.heap[R]? = some (.cells #[h0, h1, h2, h3, h4, .slice none 0 0] 28 (0, 0))) (hlo : R < B) (hlt : B<=V.heap.size) : MkC P V B R h0 h1 h2 h3 h4 (.slice none 0 0) [] :=
 ⟨hc, ⟨rfl, .inl ⟨rfl, rfl⟩⟩, (fun y hy => by cases hy), hlo, hlt⟩
theorem MkC.push {P : Nat->Prop} {V w4 : World} {B R : Nat} {h0 h1 h2 h3 h4 cv : Value} {ds : List ConD} {y : ConD} {o : Obj} {gN cN : Nat} (h : MkC P V B R h0 h1 h2 h3 h4 cv ds) (hy : IsCon (fun b => (P b/\b ≠ R)/\cv.ownBlock ≠ some b) V y)
 (hown : w4.ownsRow B 28 6 (.slice (some ⟨gN, 0, none⟩) (ds.length + 1) cN) (ds.length + 1) (cCQ ds ++ cEQ y)) (hg : (V.alloc o).grownBy w4 cv.ownBlock) (hat : cv.ownBlock = some gN ∨ gN = (V.alloc o).heap.size) :
 MkC P (w4.setCell ⟨R, 5, none⟩ (.slice (some ⟨gN, 0, none⟩) (ds.length + 1) cN)) B R h0 h1 h2 h3 h4 (.slice (some ⟨gN, 0, none⟩) (ds.length + 1) cN) (ds ++ [y]) := by
 have hlt := hLQ h.cell
 have hol : ∀ b, cv.ownBlock = some b->B<=b := fun b hb => (h.own.lt b hb).1
 have hlo := h.lo
 have hblt := h.lt
 have hsz : (V.alloc o).heap.size = V.heap.size + 1 := by simp
 have hgs := hg.size
 have hR4 : w4.heap[R]? = some (.cells #[h0, h1, h2, h3, h4, cv] 28 (0, 0)) := by
  rw [hg.block R (by omega) (fun e => by have := hol R e.symm; omega), ← h.cell]
  exact (gAQ V o).block R hlt (by nofun)
 have hgN : B<=gN := by
  rcases hat with e | e
  ·exact hol _ e
  ·omega
 have hset := gSQ w4 R 5 (.slice (some ⟨gN, 0, none⟩) (ds.length + 1) cN)
 refine ⟨heap_set_same hR4 _, ?_, ?_, hlo, ?_⟩
 ·rw [List.length_append, conCells_app]
  have e : cCQ [y] = cEQ y := by simp [cCQ]
  rw [e]
  exact hown.kept hset (.inr (fun e => by have e2 : gN = R := oJQ e; omega))
 ·intro z hz
  have hz' : IsCon (fun b => (P b/\b ≠ R)/\cv.ownBlock ≠ some b) V z := by
   rcases List.mem_append.1 hz with hz | hz
   ·exact h.els z hz
   ·rw [List.mem_singleton.1 hz]; exact hy
  have hk : IsCon (fun b => ((P b/\b ≠ R)/\cv.ownBlock ≠ some b)/\b < V.heap.size) (w4.setCell ⟨R, 5, none⟩ (.slice (some ⟨gN, 0, none⟩) (ds.length + 1) cN)) z := by
   refine hz'.lt.keep (by have := hset.size; omega) (fun b hb hlt => ?_)
   rw [hset.block b (by omega) (fun e => hb.1.1.2 (oJQ e)), hg.block b (by omega) (fun e => hb.1.2 e.symm)]
   exact (gAQ V o).block b hlt (by nofun)
  refine hk.mono (fun b hb _ => ⟨hb.1.1, fun e => ?_⟩)
  have e : gN = b := oJQ e
  rcases hat with e2 | e2
  ·exact hb.1.2 (by rw [e2, e])
  ·omega
 ·have := hset.size; omega
end Go.Proofs.YtkiffgdinmpljaaGreatDoor
