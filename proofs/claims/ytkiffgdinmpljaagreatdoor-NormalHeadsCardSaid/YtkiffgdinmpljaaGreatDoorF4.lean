/- What came in reads as kinds and constructors. What the rows of law 11 list: their world for the witness, and what they give the calls. What all texts of law 11 lean on: worlds, rows, strings. Constructors and kinds that are made: rows that grow, results in cells. Expanded by mac.py. tycon.depth, normal.size. Expanded by mac.py. Lists of kinds and of constructors under way. -/
import Derived.Test.YtkiffgdinmpljaaGreatDoorF1
import Derived.Test.YtkiffgdinmpljaaGreatDoorF3
import Derived.Test.YtkiffgdinmpljaaGreatDoorF2
import Derived.Deep.Slices
import Derived.ChangeSame
import Derived.SliceStrings
import Derived.Test.YtkiffgdinmpljaaGreatDoorLaw
import Derived.Test.YtkiffgdinmpljaaGreatDoorCards
import Derived.Test.YtkiffgdinmpljaaGreatDoorTie
import Derived.Deep.DeepHandedRow
import Derived.Deep.DeepWitnessRowRef
import Derived.Lib.LaidTab
import Derived.WalkKit
import Derived.WalkLawsBesides
import Derived.WalkSpells
import Derived.Outline
import Derived.BigQuiet
import Derived.Deep.QuietTactic
import Derived.Lib.Hide
import Derived.StillTailTactics
import Derived.Deep.WholeRow
import Derived.Maps.AppendAt
import Derived.Lib.ItoaLen
import Derived.Deep.DeepCutAuto
import Derived.Deep.RegionHeld3
import Derived.Laws.BitsAllLaws
import Derived.Laws.ResultCell
import Derived.Lib.SliceRun
import Derived.Lib.ConvBytes
import Derived.Deep.AppendLies
import Derived.Shelf.Bytes.SlEqualAll
import Derived.Test.YtkiffgdinmpljaaGreatDoorChecked
import Derived.Deep.RegionLawGrows
import Derived.Laws.Rows
set_option linter.unusedVariables false
set_option linter.unusedSimpArgs false
namespace Go.Proofs.YtkiffgdinmpljaaGreatDoor
open Go Go.RowKit Go.ChangeShapes Go.WideShapes
set_option maxHeartbeats 8000000
set_option maxRecDepth 100000
theorem flat_getD {α : Type} [Inhabited α] (f : α->List Value) (s : Nat) (hf : ∀ a, (f a).length = s) : ∀ (l : List α) (i r : Nat), i < l.length->r < s->(l.flatMap f).getD (i * s + r) undef = (f (l.getD i default)).getD r undef
 | [], i, r, h, _ => by simp at h
 | x :: l, 0, r, _, hr => by
   simp only [List.flatMap_cons, Nat.zero_mul, Nat.zero_add, List.getD_eq_getElem?_getD]
   rw [List.getElem?_append_left (by rw [hf]; exact hr)]; simp
 | x :: l, i + 1, r, h, hr => by
   have ih := flat_getD f s hf l i r (by simpa using h) hr
   have e : (i + 1) * s + r - s = i * s + r := by rw [Nat.succ_mul]; omega
   have e2 : s<=(i + 1) * s + r := by rw [Nat.succ_mul]; omega
   simp only [List.flatMap_cons, List.getD_eq_getElem?_getD] at ih ⊢
   rw [List.getElem?_append_right (by rw [hf]; exact e2), hf, e]
   simpa using ih
theorem flat_length {α : Type} (f : α->List Value) (s : Nat) (hf : ∀ a, (f a).length = s) : ∀ (l : List α), (l.flatMap f).length = l.length * s
 | [] => by simp
 | x :: l => by rw [List.flatMap_cons, List.length_append, hf, flat_length f s hf l, List.length_cons, Nat.succ_mul]; omega
section
variable {H : Type} {enc : TypeId × Value->H} {W : World} {sp : Nat->Bool}
theorem cell_spot' {w : World} {a : Addr} {v : Value} (h : w.cell? a = some v) : a.spot = none := World.cell?_spot h
theorem row_open {α : Type} [Inhabited α] (f : α->List Value) (Q : α->Prop) (s : Nat) (hs : 0 < s) (hf : ∀ a, (f a).length = s) {t e : TypeId} (ht : Tryz.prog.underlying t = some (.slice e)) (hc : Tryz.prog.cellsOf e = s)
 {n : Nat} (hG : ∀ k, k < n->∀ cs x, DataW.trod enc Tryz.prog W 0 sp true k e cs = some x->∃ a, cs = f a/\Q a) {cs : List Value} {x : DataW H × List MemPlace} (h : DataW.trod enc Tryz.prog W 0 sp true n t cs = some x) :
 ∃ (v : Value) (l : List α), cs = [v]/\RowP (fun _ => True) W v l.length (l.flatMap f)/\(∀ a ∈ l, Q a)/\l.length<=maxLen := by
 rcases DataW.trod_slice ht h with ⟨rfl, _⟩ | ⟨a, len, cap, elems, rest, k, hnk, rfl, _, _, hl, hcm, hlen, hel, _, _⟩
 ·exact ⟨_, [], rfl, ⟨none, 0, rfl, Nat.le_refl _, fun h => by simp at h⟩, (fun a ha => by cases ha), Nat.zero_le _⟩
 ·have each : ∀ i, ∃ q : α, i < len->(∀ r, r < s->W.cell? ((a.add (i * s)).add r) = some ((f q).getD r undef))/\Q q := fun i => by
   by_cases hi : i < len
   ·have hx := hel i hi
    rw [List.getElem?_eq_getElem (by omega)] at hx
    obtain ⟨cs', h1, h2⟩ := Option.bind_eq_some_iff.1 hx
    rw [hc] at h1
    obtain ⟨_, hlen', hcell⟩ := World.cells?_some h1
    obtain ⟨q, rfl, hq⟩ := hG k (by omega) _ _ h2
    refine ⟨q, fun _ => ⟨fun r hr => ?_, hq⟩⟩
    rw [hcell r hr]
    have : r < (f q).length := by rw [hf]; exact hr
    simp [List.getD, this]
   ·exact ⟨default, fun h => absurd h hi⟩
  obtain ⟨q, hq⟩ := Classical.axiomOfChoice each
  have hl' : ((List.range len).map q).length = len := by simp
  refine ⟨_, (List.range len).map q, rfl, ⟨some a, cap, by rw [hl'], by omega, fun h0 => ?_⟩, fun z hz => ?_, by rw [hl']; omega⟩
  ·rw [hl'] at h0
   obtain ⟨b, off, spt⟩ := a
   have e0 := (hq 0 h0).1 0 hs
   have : spt = none := by simpa [Addr.add] using cell_spot' e0
   subst this
   have hcl : ∀ j, j < len * s->W.cell? ⟨b, off + j, none⟩ = some ((((List.range len).map q).flatMap f).getD j undef) := fun j hj => by
    have hdm := Nat.div_add_mod j s
    have hjs : j / s < len := by rw [Nat.div_lt_iff_lt_mul hs]; exact hj
    have hjr : j % s < s := Nat.mod_lt _ hs
    have g := (hq (j / s) hjs).1 (j % s) hjr
    have e : j = j / s * s + j % s := by rw [Nat.mul_comm] at hdm; exact hdm.symm
    have ea : (((⟨b, off, none⟩ : Addr).add (j / s * s)).add (j % s)) = ⟨b, off + j, none⟩ := by
     rw [Go.WideShapes.add_plain, Go.WideShapes.add_plain, Nat.add_assoc, ← e]
    rw [ea] at g
    rw [g]
    conv => rhs; rw [e, flat_getD f s hf _ _ _ (by rw [hl']; exact hjs) hjr]
    simp [List.getD, hjs]
   refine ⟨b, off, rfl, trivial, ?_, fun j hj => hcl j (by rw [flat_length f s hf, hl'] at hj; exact hj)⟩
   have := hcl 0 (Nat.mul_pos h0 hs)
   rcases Nat.lt_or_ge b W.heap.size with h' | h'
   ·exact h'
   ·simp [World.cell?, Array.getElem?_eq_none h'] at this
  ·obtain ⟨i, hi, rfl⟩ := List.mem_map.1 hz
   exact (hq i (by simpa using hi)).2
theorem int_open {n : Nat} {cs : List Value} {x : DataW H × List MemPlace} (h : DataW.trod enc Tryz.prog W 0 sp true n 3 cs = some x) : ∃ k : Int, cs = [.int .i64 k] := by
 obtain ⟨k, rfl, _, _⟩ := DataW.trod_int Tryz.underlying3 h
 exact ⟨k, rfl⟩
theorem str_open {n : Nat} {cs : List Value} {x : DataW H × List MemPlace} (h : DataW.trod enc Tryz.prog W 0 sp true n 9 cs = some x) : ∃ s : ByteArray, cs = [.string s] := by
 obtain ⟨k, rfl, _, _⟩ := DataW.trod_string Tryz.underlying9 h
 exact ⟨k, rfl⟩
theorem cells_int : Tryz.prog.cellsOf 3 = 1 := by kernel_rfl
theorem cells_string : Tryz.prog.cellsOf 9 = 1 := by kernel_rfl
theorem cells_strs : Tryz.prog.cellsOf 25 = 1 := by kernel_rfl
theorem cells_kinds : Tryz.prog.cellsOf 22 = 1 := by kernel_rfl
theorem cells_kind : Tryz.prog.cellsOf 24 = 1 := by kernel_rfl
theorem cells_cons : Tryz.prog.cellsOf 26 = 1 := by kernel_rfl
theorem cells_con : Tryz.prog.cellsOf 28 = 6 := by kernel_rfl
theorem field_at {fs : Array Field} {t : TypeId} (ht : Tryz.prog.underlying t = some (.struct fs)) {n : Nat} {cs : List Value} {x : DataW H × List MemPlace} (h : DataW.trod enc Tryz.prog W 0 sp true n t cs = some x) (i o c : Nat) (f : Field) (hi : fs[i]? = some f) (ho : f.offset = o) (hc : Tryz.prog.cellsOf f.type = c) :
 ∃ m y, m < n/\DataW.trod enc Tryz.prog W 0 sp true m f.type ((cs.drop o).take c) = some y := by
 obtain ⟨xs, m, hn, _, _, hxl, hf⟩ := DataW.trod_struct ht h
 have g := hf i f hi
 have hlt : i < fs.size := (Array.getElem?_eq_some_iff.1 hi).1
 rw [ho, hc, List.getElem?_eq_getElem (by omega)] at g
 exact ⟨m, _, by omega, g⟩
theorem len_at {fs : Array Field} {t : TypeId} (ht : Tryz.prog.underlying t = some (.struct fs)) {n : Nat} {cs : List Value} {x : DataW H × List MemPlace} (h : DataW.trod enc Tryz.prog W 0 sp true n t cs = some x) : cs.length = Tryz.prog.cellsOf t := by
 obtain ⟨_, _, _, _, hl, _, _⟩ := DataW.trod_struct ht h
 exact hl
abbrev IsKind1 (W : World) (k : KindD) : Prop := IsKind (fun _ => True) W k
abbrev IsCon1 (W : World) (c : ConD) : Prop := IsCon (fun _ => True) W c
theorem kinds_cells : ∀ l : List KindD, l.flatMap (fun k : KindD => [k.v]) = kindCells l
 | [] => rfl
 | x :: l => by rw [List.flatMap_cons, kinds_cells l]; rfl
theorem kind_open (n : Nat) : ∀ (cs : List Value) (x : DataW H × List MemPlace), DataW.trod enc Tryz.prog W 0 sp true n 24 cs = some x->∃ k : KindD, cs = [k.v]/\IsKind1 W k := by
 induction n using Nat.strongRecOn with
 | _ n ih =>
   intro cs x h
   have hl := (len_at Tryz.underlying24 h).trans cells_kind
   obtain ⟨m, _, hm, g0⟩ := field_at Tryz.underlying24 h 0 0 1 _ rfl rfl cells_kinds
   match cs, hl with
   | [c0], _ =>
     obtain ⟨v, l, e0, hr, hq, hlm⟩ := row_open (fun k : KindD => [k.v]) (IsKind1 W) 1 (by decide) (fun _ => rfl) Tryz.underlying22 cells_kind (fun k hk => ih k (by omega)) g0
     simp at e0
     subst e0
     rw [kinds_cells] at hr
     exact ⟨.mk c0 l, rfl, .mk hr hlm hq⟩
theorem strs_cells : ∀ l : List ByteArray, l.flatMap (fun s : ByteArray => [Value.string s]) = strCells l
 | [] => rfl
 | x :: l => by rw [List.flatMap_cons, strs_cells l]; rfl
theorem con_open (n : Nat) : ∀ (cs : List Value) (x : DataW H × List MemPlace), DataW.trod enc Tryz.prog W 0 sp true n 28 cs = some x->∃ c : ConD, cs = cEQ c/\IsCon1 W c := by
 induction n using Nat.strongRecOn with
 | _ n ih =>
   intro cs x h
   have hl := (len_at Tryz.underlying28 h).trans cells_con
   obtain ⟨_, _, _, g0⟩ := field_at Tryz.underlying28 h 0 0 1 _ rfl rfl cells_int
   obtain ⟨_, _, _, g1⟩ := field_at Tryz.underlying28 h 1 1 1 _ rfl rfl cells_int
   obtain ⟨_, _, _, g2⟩ := field_at Tryz.underlying28 h 2 2 1 _ rfl rfl cells_string
   obtain ⟨_, _, _, g3⟩ := field_at Tryz.underlying28 h 3 3 1 _ rfl rfl cells_kind
   obtain ⟨_, _, _, g4⟩ := field_at Tryz.underlying28 h 4 4 1 _ rfl rfl cells_strs
   obtain ⟨m, _, hm, g5⟩ := field_at Tryz.underlying28 h 5 5 1 _ rfl rfl cells_cons
   match cs, hl with
   | [c0, c1, c2, c3, c4, c5], _ =>
     obtain ⟨k0, e0⟩ := int_open g0
     obtain ⟨k1, e1⟩ := int_open g1
     obtain ⟨s, e2⟩ := str_open g2
     obtain ⟨k, e3, hk⟩ := kind_open _ _ _ g3
     obtain ⟨nv, ns, e4, hnr, _, hnm⟩ := row_open (fun s : ByteArray => [Value.string s]) (fun _ => True) 1 (by decide) (fun _ => rfl) Tryz.underlying25 cells_string (fun k _ cs x h => by
      obtain ⟨s, rfl⟩ := str_open h
      exact ⟨s, rfl, trivial⟩) g4
     obtain ⟨lv, l, e5, hr, hq, hlm⟩ := row_open cEQ (IsCon1 W) 6 (by decide) (fun _ => rfl) Tryz.underlying26 cells_con (fun k hk => ih k (by omega)) g5
     simp at e0 e1 e2 e3 e4 e5
     subst e0 e1 e2 e3 e4 e5
     rw [strs_cells] at hnr
     exact ⟨.mk k0 k1 s k c4 ns c5 l, rfl, .mk hk hnr hnm hr hlm hq⟩
end
end Go.Proofs.YtkiffgdinmpljaaGreatDoor
namespace Go.Proofs.YtkiffgdinmpljaaGreatDoor
open Go Go.RowKit Go.ChangeShapes Go.WideShapes Go.ChangeAt
theorem own : ownKnob Tryz.prog.godebug = none := by kernel_rfl
theorem laidOut : laidOutB Tryz.prog = true := by kernel_rfl
def flatD : Nat->DataW Unit->List Value
 | _ + 1, .lit l => [l.value]
 | n + 1, .agg ds => ds.flatMap (flatD n)
 | _, _ => []
def fillObj (cs : List Value) : Obj->Obj
 | .cells _ t frozen => .cells cs.toArray t frozen
 | o => o
def nodupB : List Nat->Nat->Bool
 | [], _ => true
 | c :: l, acc => !(acc.testBit c) && nodupB l (acc ||| (1 <<< c))
theorem nodupB_ok : ∀ (l : List Nat) (acc : Nat), nodupB l acc = true->l.Nodup/\∀ c ∈ l, acc.testBit c = false
 | [], _, _ => ⟨List.nodup_nil, fun _ h => by cases h⟩
 | c :: l, acc, h => by
   simp only [nodupB, Bool.and_eq_true, Bool.not_eq_true'] at h
   obtain ⟨h1, h2⟩ := nodupB_ok l _ h.2
   refine ⟨List.nodup_cons.2 ⟨fun hc => ?_, h1⟩, fun x hx => ?_⟩
   ·have := h2 c hc
    rw [Nat.testBit_or] at this
    simp [Nat.testBit_shiftLeft] at this
   ·rcases List.mem_cons.1 hx with rfl | hx
    ·exact h.1
    ·have := h2 x hx
     rw [Nat.testBit_or, Bool.or_eq_false_iff] at this
     exact this.1
def codeP : MemPlace->Nat
 | .cell b o => b * 1024 + o
 | .map b => b * 1024 + 1023
theorem nodup_places {ps : List MemPlace} (h : nodupB (ps.map codeP) 0 = true) : ps.Nodup := by
 have := (nodupB_ok _ _ h).1
 unfold List.Nodup at this ⊢
 exact (List.pairwise_map.1 this).imp fun hne he => hne (by rw [he])
theorem laidMet_by {P : Program} {w : World} {l : List (String × DataW Unit)} (fuel : Nat) (h : (DataW.laidRun P w fuel (l.map (·.1))).map (·.1) = some l)
 (hn : (DataW.laidRun P w fuel (l.map (·.1))).map (fun x => nodupB (x.2.map codeP) 0 && laidRowsB P w x.2) = some true) : laidMet P l w := by
 refine laidMet_of_run' fuel h ?_
 cases hx : DataW.laidRun P w fuel (l.map (·.1)) with
 | none => simp [hx] at hn
 | some x =>
   rw [hx] at hn
   simp only [Option.map_some, Option.some.injEq, Bool.and_eq_true] at hn ⊢
   exact ⟨decide_eq_true (nodup_places hn.1), hn.2⟩
noncomputable def laidWorld (os : Os) : World :=
 { World.holding Tryz.prog os ⟨#[], #[], []⟩ with heap :=
  ((((((World.holding Tryz.prog os ⟨#[], #[], []⟩).heap.modify 4 (fillObj (flatD 8 Rows.laid_math_bits_deBruijn32tab))).modify 5 (fillObj (flatD 8 Rows.laid_math_bits_deBruijn64tab))).modify 0 (fillObj (flatD 8 Rows.laid_internal_strconv_uint64pow10))).modify 3 (fillObj [.iface 170 (.pointer (some ⟨(World.holding Tryz.prog os ⟨#[], #[], []⟩).heap.size, 0, none⟩))])).modify 2 (fillObj [.iface 170 (.pointer (some ⟨(World.holding Tryz.prog os ⟨#[], #[], []⟩).heap.size + 1, 0, none⟩))])) ++
  #[Obj.cells #[.string ⟨#[118, 97, 108, 117, 101, 32, 111, 117, 116, 32, 111, 102, 32, 114, 97, 110, 103, 101]⟩] 172 (0, 0), Obj.cells #[.string ⟨#[105, 110, 118, 97, 108, 105, 100, 32, 115, 121, 110, 116, 97, 120]⟩] 172 (0, 0)] }
theorem laid_met1 (os : Os) (args : Array Value) : laidMet Tryz.prog Rows.normalFormsRow.laid ((laidWorld os).forCall (fun _ _ => 0) ⟨#[], args, []⟩).memory :=
 laidMet_by 8 (by kernel_rfl) (by kernel_rfl)
theorem laid_met (os : Os) (args : Array Value) : laidMetH Tryz.prog Rows.normalFormsRow.laid ((laidWorld os).forCall (fun _ _ => 0) ⟨#[], args, []⟩).memory := by
 rw [MakeChecks.laidMetH_plain _ _ _ (by kernel_rfl)]; exact laid_met1 os args
theorem gErr : Tryz.prog.globalNamed "strconv.ErrRange" = some 3 := by kernel_rfl
theorem tErr : (Tryz.prog.globals[3]?).map (·.type) = some 110 := by kernel_rfl
theorem envOf {W : World} (h : W.ShapedOpen Tryz.prog) (hl : laidMetH Tryz.prog Rows.normalFormsRow.laid W) : EnvN W := by
 rw [MakeChecks.laidMetH_plain _ _ _ (by kernel_rfl)] at hl
 refine ⟨?_, ?_, ?_⟩
 ·exact Go.Proofs.cell_of_shapedOpen_int (zero := #[.int .i64 0]) (t := 3) h (of_decide_eq_true (by kernel_rfl)) (by kernel_rfl) rfl (by kernel_rfl) (by kernel_rfl) Tryz.underlying3
 ·obtain ⟨m, hm⟩ : ∃ m : Int, W.cell? ⟨1, 0, none⟩ = some (.int .i64 m) :=
   Go.Proofs.cell_of_shapedOpen_int (zero := #[.int .i64 0]) (t := 3) h (of_decide_eq_true (by kernel_rfl)) (by kernel_rfl) rfl (by kernel_rfl) (by kernel_rfl) Tryz.underlying3
  rcases Nat.lt_or_ge 1 W.heap.size with h' | h'
  ·exact h'
  ·simp [World.cell?, Array.getElem?_eq_none h'] at hm
 ·obtain ⟨g, t, cs, fuel, p, hg, ht, hvar, hd⟩ : Lib.VarReads Tryz.prog W "strconv.ErrRange" Rows.laid_strconv_ErrRange := Lib.laidMet.reads hl (by simp [Rows.normalFormsRow])
  obtain rfl := oJQ (gErr.symm.trans hg)
  obtain rfl := oJQ (tErr.symm.trans ht)
  obtain ⟨_, u, v, hcs, _⟩ := iface_of_trod Tryz.underlying110 hd
  refine ⟨u, v, ?_⟩
  rw [hvar]
  congr 1
  exact Array.toList_inj.1 hcs
theorem agg_of {P : Program} {W : World} {t : TypeId} {fs : Array Field} {base : Nat} {v : Value} (ht : P.underlying t = some (.struct fs)) (hval : Value.okWide P W .any base t v) {l : List Value} (hc : v.cells.toList = l) : v = .agg l.toArray := by
 obtain ⟨cs, hv, _⟩ := okWide_struct ht hval
 rw [hv] at hc ⊢
 rw [← hc]
 show Value.agg cs = .agg cs.toList.toArray
 rw [Array.toArray_toList]
end Go.Proofs.YtkiffgdinmpljaaGreatDoor
namespace Go.Proofs.YtkiffgdinmpljaaGreatDoor
open Go Go.RowKit
theorem heap_set_same {w : World} {b i : Nat} {cs : Array Value} {T : TypeId} {fr : Nat × Nat} (hb : w.heap[b]? = some (.cells cs T fr)) (v : Value) : (w.setCell ⟨b, i, none⟩ v).heap[b]? = some (.cells (cs.setIfInBounds i v) T fr) := by
 simp [World.setCell, Array.getElem?_modify, hb]
structure OnlyAt (rb : Nat) (w w' : World) : Prop where
 os : w'.os = w.os
 tape : w'.tape = w.tape
 output : w'.output = w.output
 size : w'.heap.size = w.heap.size
 block : ∀ k, k ≠ rb->w'.heap[k]? = w.heap[k]?
theorem OnlyAt.set (w : World) (rb o : Nat) (u : Value) : OnlyAt rb w (w.setCell ⟨rb, o, none⟩ u) :=
 ⟨rfl, rfl, rfl, by simp, fun k hk => Below.heap_setCell _ _ _ _ hk⟩
theorem grown_only {rb : Nat} {w w' : World} (h : OnlyAt rb w w') : w.grownBy w' (some rb) := ⟨h.os, h.tape, h.output, Nat.le_of_eq h.size.symm, fun k _ hk => h.block k (fun e => hk (by rw [e]))⟩
theorem gLQ {w w' : World} (h : Below w.heap.size w w') : w.grownBy w' none := ⟨h.os, h.tape, h.output, h.size, fun k hk _ => h.block k hk⟩
theorem gAQ (w : World) (o : Obj) : w.grownBy (w.alloc o) none := gLQ ((Below.refl _ _).alloc (nLQ _) _)
theorem gSQ (w : World) (b o : Nat) (u : Value) : w.grownBy (w.setCell ⟨b, o, none⟩ u) (some b) := grown_only (OnlyAt.set _ _ _ _)
theorem gUQ {w w' : World} {r : Option Nat} {B : Nat} (h : w.grownBy w' r) (hB : B<=w.heap.size) (hr : ∀ k, r = some k->B<=k) : Below B w w' :=
 ⟨h.os, h.tape, h.output, h.size, fun k hk => h.block k (by omega) (fun e => by have := hr k e.symm; omega)⟩
theorem gBQ {a b c : World} {r : Option Nat} (h : a.grownBy b r) (k : b.grownBy c r) : a.grownBy c r :=
 ⟨k.os.trans h.os, k.tape.trans h.tape, k.output.trans h.output, Nat.le_trans h.size k.size, fun q hq hr => (k.block q (Nat.lt_of_lt_of_le hq h.size) hr).trans (h.block q hq hr)⟩
theorem cIQ : (Tryz.prog.info? 28).map (·.size) = some 6 := by kernel_rfl
theorem kind_info : (Tryz.prog.info? 24).map (·.size) = some 1 := by kernel_rfl
theorem set1 {V : World} {R : Nat} {x0 : Value} (h : V.heap[R]? = some (.cells #[x0] 24 (0, 0))) (a : Value) : (V.setCell ⟨R, 0, none⟩ a).heap[R]? = some (.cells #[a] 24 (0, 0))/\V.grownBy (V.setCell ⟨R, 0, none⟩ a) (some R) :=
 ⟨heap_set_same h _, gSQ V R 0 a⟩
theorem frozen6 {V : World} {R : Nat} {cs : Array Value} {t : TypeId} (h : V.heap[R]? = some (.cells cs t (0, 0))) : V.frozen? ⟨R, 0, none⟩ = false/\V.frozen? ⟨R, 1, none⟩ = false/\V.frozen? ⟨R, 2, none⟩ = false/\V.frozen? ⟨R, 3, none⟩ = false/\V.frozen? ⟨R, 4, none⟩ = false/\V.frozen? ⟨R, 5, none⟩ = false :=
 ⟨Lib.frozen_of_heap h 0, Lib.frozen_of_heap h 1, Lib.frozen_of_heap h 2, Lib.frozen_of_heap h 3, Lib.frozen_of_heap h 4, Lib.frozen_of_heap h 5⟩
def ConOut (P : Nat->Prop) (x : Cn) (e : Ending) (w' : World) : Prop := ∃ d : ConD, e = .returned (conV d)/\IsCon P w' d/\pC d = x
def KindOut (P : Nat->Prop) (x : Kd) (e : Ending) (w' : World) : Prop := ∃ d : KindD, e = .returned (kindV d)/\IsKind P w' d/\pK d = x
theorem kind_nil (P : Nat->Prop) (w : World) : IsKind P w (.mk (.slice none 0 0) []) := .mk (RowP.nil P w) (Nat.zero_le maxLen) (fun y hy => by cases hy)
theorem variable_any (P : Nat->Prop) (n : Int) (w : World) : Calls Tryz.prog 69 #[.int .i64 n] w fun e w' => ConOut P (varC n) e w'/\Below w.heap.size w w' := by
 have HG := hJQ (nHQ w (.cells #[.int .i64 1, .int .i64 n, .string ⟨#[]⟩, .slice none 0 0, .slice none 0 0, .slice none 0 0] 28))
 have HB : Hid (Below w.heap.size w (w.alloc (.cells #[.int .i64 1, .int .i64 n, .string ⟨#[]⟩, .slice none 0 0, .slice none 0 0, .slice none 0 0] 28))) := (Below.refl _ _).alloc (nLQ _) _
 go_enter Tryz.func69, Tryz.ntmps69
 go_wp2_with fail
 refine bodyPost_ret (results_cell_row rfl _ _ w.heap.size 28 #[.int .i64 1, .int .i64 n, .string ⟨#[]⟩, .slice none 0 0, .slice none 0 0, .slice none 0 0] (0, 0) _ rfl HG.out Tryz.underlying28 rfl cIQ) rfl ?_
 exact ⟨⟨.mk 1 n ⟨#[]⟩ (.mk (.slice none 0 0) []) (.slice none 0 0) [] (.slice none 0 0) [], rfl, .mk (kind_nil _ _) (RowP.nil _ _) (Nat.zero_le maxLen) (RowP.nil _ _) (Nat.zero_le maxLen) (fun y hy => by cases hy), by rw [pMQ, pureK_mk]; rfl⟩, HB.out⟩
theorem two_box {w : World} {A B : Obj} (h : (w.alloc A).heap[w.heap.size]? = some B) : (w.alloc A).grownBy ((w.alloc A).alloc (.cells #[.int .i64 0, .int .i64 0, .string ⟨#[]⟩, .slice none 0 0, .slice none 0 0, .slice none 0 0] 28)) none/\((w.alloc A).alloc (.cells #[.int .i64 0, .int .i64 0, .string ⟨#[]⟩, .slice none 0 0, .slice none 0 0, .slice none 0 0] 28)).heap[w.heap.size + 1]? = some (.cells #[.int .i64 0, .int .i64 0, .string ⟨#[]⟩, .slice none 0 0, .slice none 0 0, .slice none 0 0] 28)/\((w.alloc A).alloc (.cells #[.int .i64 0, .int .i64 0, .string ⟨#[]⟩, .slice none 0 0, .slice none 0 0, .slice none 0 0] 28)).heap[w.heap.size]? = some B/\Below w.heap.size w ((w.alloc A).alloc (.cells #[.int .i64 0, .int .i64 0, .string ⟨#[]⟩, .slice none 0 0, .slice none 0 0, .slice none 0 0] 28))/\((w.alloc A).alloc (.cells #[.int .i64 0, .int .i64 0, .string ⟨#[]⟩, .slice none 0 0, .slice none 0 0, .slice none 0 0] 28)).heap.size = w.heap.size + 2 := by
 have g := gAQ (w.alloc A) (.cells #[.int .i64 0, .int .i64 0, .string ⟨#[]⟩, .slice none 0 0, .slice none 0 0, .slice none 0 0] 28)
 have hs : (w.alloc A).heap.size = w.heap.size + 1 := by simp
 have k := nHQ (w.alloc A) (.cells #[.int .i64 0, .int .i64 0, .string ⟨#[]⟩, .slice none 0 0, .slice none 0 0, .slice none 0 0] 28)
 rw [hs] at k
 exact ⟨g, k, (g.block w.heap.size (by omega) (by nofun)).trans h, gUQ (B := w.heap.size) (gBQ (gAQ w A) g) (nLQ _) (by nofun), by simp⟩
theorem tri_box {w : World} {A B : Obj} (h : (w.alloc A).heap[w.heap.size]? = some B) : (w.alloc A).grownBy ((w.alloc A).alloc (.cells #[.int .i64 0, .int .i64 0, .string ⟨#[]⟩, .slice none 0 0, .slice none 0 0, .slice none 0 0] 28)) none/\((w.alloc A).alloc (.cells #[.int .i64 0, .int .i64 0, .string ⟨#[]⟩, .slice none 0 0, .slice none 0 0, .slice none 0 0] 28)).heap[w.heap.size + 1]? = some (.cells #[.int .i64 0, .int .i64 0, .string ⟨#[]⟩, .slice none 0 0, .slice none 0 0, .slice none 0 0] 28)/\((w.alloc A).alloc (.cells #[.int .i64 0, .int .i64 0, .string ⟨#[]⟩, .slice none 0 0, .slice none 0 0, .slice none 0 0] 28)).heap[w.heap.size]? = some B :=
 ⟨(two_box h).1, (two_box h).2.1, (two_box h).2.2.1⟩
theorem fo_box {w : World} {A B : Obj} (h : (w.alloc A).heap[w.heap.size]? = some B) : (w.alloc A).grownBy ((w.alloc A).alloc (.cells #[.int .i64 0, .int .i64 0, .string ⟨#[]⟩, .slice none 0 0, .slice none 0 0, .slice none 0 0] 28)) none/\((w.alloc A).alloc (.cells #[.int .i64 0, .int .i64 0, .string ⟨#[]⟩, .slice none 0 0, .slice none 0 0, .slice none 0 0] 28)).heap[w.heap.size + 1]? = some (.cells #[.int .i64 0, .int .i64 0, .string ⟨#[]⟩, .slice none 0 0, .slice none 0 0, .slice none 0 0] 28)/\((w.alloc A).alloc (.cells #[.int .i64 0, .int .i64 0, .string ⟨#[]⟩, .slice none 0 0, .slice none 0 0, .slice none 0 0] 28)).heap[w.heap.size]? = some B/\((w.alloc A).alloc (.cells #[.int .i64 0, .int .i64 0, .string ⟨#[]⟩, .slice none 0 0, .slice none 0 0, .slice none 0 0] 28)).heap.size = w.heap.size + 2 :=
 ⟨(two_box h).1, (two_box h).2.1, (two_box h).2.2.1, (two_box h).2.2.2.2⟩
theorem depthCL_take (l : List Cn) (j : Nat) : depthCL (l.take j)<=depthCL l := by
 induction l generalizing j with
 | nil => simp
 | cons x l ih =>
   cases j with
   | zero => rw [List.take_zero, depthCL_nil]; omega
   | succ j => rw [List.take_succ_cons, depthCL_cons, depthCL_cons]; have := ih j; omega
theorem depthCL_size (l : List Cn) : depthCL l<=sizeCL l := by
 induction l with
 | nil => rw [depthCL_nil]; omega
 | cons x r ihr => rw [depthCL_cons, sizeCL_cons]; have := depth_size x; omega
theorem take_all {α β : Type} (f : α->β) (l : List α) : (l.map f).take l.length = l.map f := List.take_of_length_le (by rw [List.length_map]; exact Nat.le_refl _)
theorem cdepth_any (P : Nat->Prop) : ∀ (c : ConD) (w : World), IsCon P w c->sizeC (pC c)<=1000000000 →
 Calls Tryz.prog 52 #[conV c] w fun e w' => e = .returned (.int .i64 (dCQ (pC c)))/\Below w.heap.size w w' := by
 refine ConD.ind (fun op n s k nv ns lv l ih w h hsz => ?_)
 obtain ⟨ka, kc, kn, na, nc, a, c, rfl, _, rfl, _, hks, hcv, hll, hnn, hb0, gC, hsz0, HP, HC0, c0, c1, c2, c3, c4, c5⟩ := open_box h
 rw [hcv]
 clear hcv
 rw [pMQ] at hsz ⊢
 rw [sMQ] at hsz
 have HI := hJQ ih
 clear ih h hks gC HC0
 go_enter Tryz.func52, Tryz.ntmps52
 go_wp2_with fail
 generalize w.alloc (.cells #[.int .i64 op, .int .i64 n, .string s, .slice ka kn kc, .slice na ns.length nc, .slice a l.length c] 28) = W0 at *
 go_loopw [3, 9] (fun m i wr => ∃ (j : Nat), j<=l.length/\i = .int .i64 j/\m = .int .i64 ((depthCL ((l.map pC).take j) : Nat) : Int)/\Below W0.heap.size W0 wr) (fun _ i _ => l.length - (intOf i).toNat)
 case atStart => exact ⟨0, Nat.zero_le _, rfl, (by rw [List.take_zero, depthCL_nil]; rfl), Below.refl _ _⟩
 case round =>
  rename World => V
  obtain ⟨j, hj, rfl, rfl, hbr⟩ := hrel
  have hbt := depthCL_take (l.map pC) j
  have hbs := depthCL_size (l.map pC)
  by_cases hjl : j < l.length
  ·have HV := hJQ (Kept.of_below (P := P) hbr)
   obtain ⟨b, off, yop, yn, ys, yk, yns, yl, yka, ykn, ykc, yna, ync, ya, yc, fd, hbl, hq, hy, hmem, hv, HT, e0, e1, e2, e3, e4, e5⟩ := part_at (HV.out.row HP.out.row) (fun y hy => HV.out.con (HP.out.all y hy)) j hjl
   subst fd
   have HT := hJQ HT
   have hbY : Below V.heap.size V (V.alloc (.cells #[.int .i64 yop, .int .i64 yn, .string ys, .slice yka ykn ykc, .slice yna yns.length ync, .slice ya yl.length yc] 28)) := (Below.refl _ _).alloc (nLQ _) _
   obtain ⟨f0, f1, f2, f3, f4, f5⟩ := cnQ (nHQ V (.cells #[.int .i64 yop, .int .i64 yn, .string ys, .slice yka ykn ykc, .slice yna yns.length ync, .slice ya yl.length yc] 28))
   have hbt2 := sizeCL_take (l.map pC) (j + 1)
   rw [HT.out, sizeCL_snoc] at hbt2
   have hds := depth_size (pC (.mk yop yn ys yk (.slice yna yns.length ync) yns (.slice ya yl.length yc) yl))
   have HC := hJQ (HI.out _ hmem _ (iBQ hy hbY) (by omega))
   rw [hv] at HC
   have hbb := hbr.trans (hbY.mono hbr.size)
   clear hy hv hmem hq
   generalize pC (.mk yop yn ys yk (.slice yna yns.length ync) yns (.slice ya yl.length yc) yl) = y at *
   go_wp2_with fail
   refine HC.out.mono ?_
   rintro e w2 ⟨rfl, hb2⟩
   have hbr2 := hbb.trans (hb2.mono hbb.size)
   clear HC
   go_wp2_with fail
   go_roundw
   case rel => exact ⟨j + 1, by omega, by go_num, by rw [HT.out, depthCL_snoc]; go_num, hbr2⟩
   case measure => simp [intOf]; omega
  ·obtain rfl : j = l.length := by omega
   have hbw := hb0.trans (hbr.mono hb0.size)
   rw [take_all] at hbt ⊢
   go_wp2_with fail
   go_ret
   exact ⟨by rw [depthC_mk]; rfl, hbw⟩
theorem nsize_any (P : Nat->Prop) : ∀ (c : ConD) (w : World), IsCon P w c->sizeC (pC c)<=1000000000 →
 Calls Tryz.prog 121 #[conV c] w fun e w' => e = .returned (.tuple #[.int .i64 (sizeC (pC c)), .int .i64 (dCQ (pC c))])/\Below w.heap.size w w' := by
 refine ConD.ind (fun op n s k nv ns lv l ih w h hsz => ?_)
 obtain ⟨ka, kc, kn, na, nc, a, c, rfl, _, rfl, _, hks, hcv, hll, hnn, hb0, gC, hsz0, HP, HC0, c0, c1, c2, c3, c4, c5⟩ := open_box h
 rw [hcv]
 clear hcv
 rw [pMQ] at hsz ⊢
 rw [sMQ] at hsz
 have HI := hJQ ih
 clear ih h hks gC HC0
 go_enter Tryz.func121, Tryz.ntmps121
 go_wp2_with fail
 generalize w.alloc (.cells #[.int .i64 op, .int .i64 n, .string s, .slice ka kn kc, .slice na ns.length nc, .slice a l.length c] 28) = W0 at *
 go_loopw [2, 3, 11] (fun m q i wr => ∃ (j : Nat), j<=l.length/\i = .int .i64 j/\m = .int .i64 ((sizeCL ((l.map pC).take j) + 1 : Nat) : Int)/\q = .int .i64 ((depthCL ((l.map pC).take j) : Nat) : Int)/\Below W0.heap.size W0 wr) (fun _ _ i _ => l.length - (intOf i).toNat)
 case atStart => exact ⟨0, Nat.zero_le _, rfl, (by rw [List.take_zero, sizeCL_nil]; rfl), (by rw [List.take_zero, depthCL_nil]; rfl), Below.refl _ _⟩
 case round =>
  rename World => V
  obtain ⟨j, hj, rfl, rfl, rfl, hbr⟩ := hrel
  have hbt := depthCL_take (l.map pC) j
  have hbt3 := sizeCL_take (l.map pC) j
  have hbs := depthCL_size (l.map pC)
  by_cases hjl : j < l.length
  ·have HV := hJQ (Kept.of_below (P := P) hbr)
   obtain ⟨b, off, yop, yn, ys, yk, yns, yl, yka, ykn, ykc, yna, ync, ya, yc, fd, hbl, hq, hy, hmem, hv, HT, e0, e1, e2, e3, e4, e5⟩ := part_at (HV.out.row HP.out.row) (fun y hy => HV.out.con (HP.out.all y hy)) j hjl
   subst fd
   have HT := hJQ HT
   have hbY : Below V.heap.size V (V.alloc (.cells #[.int .i64 yop, .int .i64 yn, .string ys, .slice yka ykn ykc, .slice yna yns.length ync, .slice ya yl.length yc] 28)) := (Below.refl _ _).alloc (nLQ _) _
   obtain ⟨f0, f1, f2, f3, f4, f5⟩ := cnQ (nHQ V (.cells #[.int .i64 yop, .int .i64 yn, .string ys, .slice yka ykn ykc, .slice yna yns.length ync, .slice ya yl.length yc] 28))
   have hbt2 := sizeCL_take (l.map pC) (j + 1)
   rw [HT.out, sizeCL_snoc] at hbt2
   have hds := depth_size (pC (.mk yop yn ys yk (.slice yna yns.length ync) yns (.slice ya yl.length yc) yl))
   have HC := hJQ (HI.out _ hmem _ (iBQ hy hbY) (by omega))
   rw [hv] at HC
   have hbb := hbr.trans (hbY.mono hbr.size)
   clear hy hv hmem hq
   generalize pC (.mk yop yn ys yk (.slice yna yns.length ync) yns (.slice ya yl.length yc) yl) = y at *
   go_wp2_with fail
   refine HC.out.mono ?_
   rintro e w2 ⟨rfl, hb2⟩
   have hbr2 := hbb.trans (hb2.mono hbb.size)
   clear HC
   go_wp2_with fail
   go_roundw
   case rel => exact ⟨j + 1, by omega, by go_num, by rw [HT.out, sizeCL_snoc]; go_num, by rw [HT.out, depthCL_snoc]; go_num, hbr2⟩
   case measure => simp [intOf]; omega
  ·obtain rfl : j = l.length := by omega
   have hbw := hb0.trans (hbr.mono hb0.size)
   rw [take_all] at hbt hbt3 ⊢
   go_wp2_with fail
   go_ret2
   exact ⟨by rw [depthC_mk, sMQ]; rfl, hbw⟩
theorem gDQ (w : World) : w.grownBy w.drew none := ⟨rfl, rfl, rfl, Nat.le_refl _, fun _ _ _ => rfl⟩
theorem info_kind : (Tryz.prog.info? 24).map (fun i => (i.zero, i.size, i.bytes)) = some (some (.agg #[.slice none 0 0]), 1, 24) := by kernel_rfl
theorem info_con : (Tryz.prog.info? 28).map (fun i => (i.zero, i.size, i.bytes)) = some (some (.agg #[.int .i64 0, .int .i64 0, .string ⟨#[]⟩, .slice none 0 0, .slice none 0 0, .slice none 0 0]), 6, 104) := by kernel_rfl
theorem IsKind.lt {P : Nat->Prop} {w : World} {k : KindD} (h : IsKind P w k) : IsKind (fun b => P b/\b < w.heap.size) w k := h.mono fun _ hp hlt => ⟨hp, hlt⟩
theorem IsCon.lt {P : Nat->Prop} {w : World} {k : ConD} (h : IsCon P w k) : IsCon (fun b => P b/\b < w.heap.size) w k := h.mono fun _ hp hlt => ⟨hp, hlt⟩
theorem kindCells_app (a b : List KindD) : kindCells (a ++ b) = kindCells a ++ kindCells b := by simp [kindCells]
theorem conCells_app (a b : List ConD) : cCQ (a ++ b) = cCQ a ++ cCQ b := by simp [cCQ]
structure MkK (V : World) (B R : Nat) (cv : Value) (ds : List KindD) : Prop where
 cell : V.heap[R]? = some (.cells #[cv] 24 (0, 0))
 own : V.ownsRow B 24 1 cv ds.length (kindCells ds)
 els : ∀ y ∈ ds, IsKind (fun b => B<=b/\cv.ownBlock ≠ some b) V y
 lo : R < B
 lt : B<=V.heap.size
theorem MkK.grown {V V' : World} {B R : Nat} {cv : Value} {ds : List KindD} (h : MkK V B R cv ds) (hg : V.grownBy V' none) : MkK V' B R cv ds :=
 ⟨(hg.block _ (hLQ h.cell) (by nofun)).trans h.cell, h.own.kept hg (by cases cv.ownBlock <;> simp), fun y hy => (h.els y hy).grown hg (by nofun), h.lo, Nat.le_trans h.lt hg.size⟩
theorem MkK.slice {V : World} {B R : Nat} {cv : Value} {ds : List KindD} (h : MkK V B R cv ds) : ∃ a c, cv = .slice a ds.length c := by
 obtain ⟨_, h2⟩ := h.own
 rcases h2 with ⟨rfl, h0⟩ | ⟨g, cap, cur, rfl, _⟩
 ·exact ⟨none, 0, by rw [h0]⟩
 ·exact ⟨_, _, rfl⟩
theorem MkK.push {V w4 : World} {B R : Nat} {cv : Value} {ds : List KindD} {y : KindD} {o : Obj} {gN cN : Nat} (h : MkK V B R cv ds) (hy : IsKind (fun b => B<=b/\cv.ownBlock ≠ some b) V y)
 (hown : w4.ownsRow B 24 1 (.slice (some ⟨gN, 0, none⟩) (ds.length + 1) cN) (ds.length + 1) (kindCells ds ++ [y.v])) (hg : (V.alloc o).grownBy w4 cv.ownBlock) (hat : cv.ownBlock = some gN ∨ gN = (V.alloc o).heap.size) :
 MkK (w4.setCell ⟨R, 0, none⟩ (.slice (some ⟨gN, 0, none⟩) (ds.length + 1) cN)) B R (.slice (some ⟨gN, 0, none⟩) (ds.length + 1) cN) (ds ++ [y]) := by
 have hlt := hLQ h.cell
 have hol : ∀ b, cv.ownBlock = some b->B<=b := fun b hb => (h.own.lt b hb).1
 have hlo := h.lo
 have hblt := h.lt
 have hsz : (V.alloc o).heap.size = V.heap.size + 1 := by simp
 have hgs := hg.size
 have hR4 : w4.heap[R]? = some (.cells #[cv] 24 (0, 0)) := by
  rw [hg.block R (by omega) (fun e => by have := hol R e.symm; omega), ← h.cell]
  exact (gAQ V o).block R hlt (by nofun)
 have hgN : B<=gN := by
  rcases hat with e | e
  ·exact hol _ e
  ·omega
 have hset := gSQ w4 R 0 (.slice (some ⟨gN, 0, none⟩) (ds.length + 1) cN)
 refine ⟨(set1 hR4 _).1, ?_, ?_, hlo, ?_⟩
 ·rw [List.length_append, kindCells_app]
  exact hown.kept hset (.inr (fun e => by have e2 : gN = R := oJQ e; omega))
 ·intro z hz
  have hz' : IsKind (fun b => B<=b/\cv.ownBlock ≠ some b) V z := by
   rcases List.mem_append.1 hz with hz | hz
   ·exact h.els z hz
   ·rw [List.mem_singleton.1 hz]; exact hy
  have hk : IsKind (fun b => (B<=b/\cv.ownBlock ≠ some b)/\b < V.heap.size) (w4.setCell ⟨R, 0, none⟩ (.slice (some ⟨gN, 0, none⟩) (ds.length + 1) cN)) z := by
   refine hz'.lt.keep (by have := hset.size; omega) (fun b hb hlt => ?_)
   rw [hset.block b (by omega) (fun e => by have := oJQ e; omega), hg.block b (by omega) (fun e => hb.1.2 e.symm)]
   exact (gAQ V o).block b hlt (by nofun)
  refine hk.mono (fun b hb _ => ⟨hb.1.1, fun e => ?_⟩)
  have e : gN = b := oJQ e
  rcases hat with e2 | e2
  ·exact hb.1.2 (by rw [e2, e])
  ·omega
 ·have := hset.size; omega
structure MkC (P : Nat->Prop) (V : World) (B R : Nat) (h0 h1 h2 h3 h4 cv : Value) (ds : List ConD) : Prop where
 cell : V.heap[R]? = some (.cells #[h0, h1, h2, h3, h4, cv] 28 (0, 0))
 own : V.ownsRow B 28 6 cv ds.length (cCQ ds)
 els : ∀ y ∈ ds, IsCon (fun b => (P b/\b ≠ R)/\cv.ownBlock ≠ some b) V y
 lo : R < B
 lt : B<=V.heap.size
theorem MkC.grown {P : Nat->Prop} {V V' : World} {B R : Nat} {h0 h1 h2 h3 h4 cv : Value} {ds : List ConD} {r : Option Nat} (h : MkC P V B R h0 h1 h2 h3 h4 cv ds) (hg : V.grownBy V' r) (hr : ∀ q, r = some q->¬ P q/\q ≠ R/\cv.ownBlock ≠ some q) : MkC P V' B R h0 h1 h2 h3 h4 cv ds :=
 ⟨(hg.block _ (hLQ h.cell) (fun e => (hr _ e.symm).2.1 rfl)).trans h.cell, h.own.kept hg (by
   cases r with
   | none => cases cv.ownBlock <;> simp
   | some q => exact .inr (hr q rfl).2.2), fun y hy => (h.els y hy).grown hg (fun q e hq => (hr q e).1 hq.1.1), h.lo, Nat.le_trans h.lt hg.size⟩
theorem MkC.slice {P : Nat->Prop} {V : World} {B R : Nat} {h0 h1 h2 h3 h4 cv : Value} {ds : List ConD} (h : MkC P V B R h0 h1 h2 h3 h4 cv ds) : ∃ a c, cv = .slice a ds.length c := by
 obtain ⟨_, h2⟩ := h.own
 rcases h2 with ⟨rfl, h0⟩ | ⟨g, cap, cur, rfl, _⟩
 ·exact ⟨none, 0, by rw [h0]⟩
 ·exact ⟨_, _, rfl⟩
theorem MkC.nil {P : Nat->Prop} {V : World} {B R : Nat} {h0 h1 h2 h3 h4 : Value} (hc : V.heap[R]? = some (.cells #[h0, h1, h2, h3, h4, .slice none 0 0] 28 (0, 0))) (hlo : R < B) (hlt : B<=V.heap.size) : MkC P V B R h0 h1 h2 h3 h4 (.slice none 0 0) [] :=
 ⟨hc, ⟨rfl, .inl ⟨rfl, rfl⟩⟩, (fun y hy => by cases hy), hlo, hlt⟩
theorem MkC.push {P : Nat->Prop} {V w4 : World} {B R : Nat} {h0 h1 h2 h3 h4 cv : Value} {ds : List ConD} {y : ConD} {o : Obj} {gN cN : Nat} (h : MkC P V B R h0 h1 h2 h3 h4 cv ds) (hy : IsCon (fun b => (P b/\b ≠ R)/\cv.ownBlock ≠ some b) V y)
 (hown : w4.ownsRow B 28 6 (.slice (some ⟨gN, 0, none⟩) (ds.length + 1) cN) (ds.length + 1) (cCQ ds ++ cEQ y)) (hg : (V.alloc o).grownBy w4 cv.ownBlock) (hat : cv.ownBlock = some gN ∨ gN = (V.alloc o).heap.size) :
 MkC P (w4.setCell ⟨R, 5, none⟩ (.slice (some ⟨gN, 0, none⟩) (ds.length + 1) cN)) B R h0 h1 h2 h3 h4 (.slice (some ⟨gN, 0, none⟩) (ds.length + 1) cN) (ds ++ [y]) := by
 have hlt := hLQ h.cell
 have hol : ∀ b, cv.ownBlock = some b->B<=b := fun b hb => (h.own.lt b hb).1
 have hlo := h.lo
 have hblt := h.lt
 have hsz : (V.alloc o).heap.size = V.heap.size + 1 := by simp
 have hgs := hg.size
 have hR4 : w4.heap[R]? = some (.cells #[h0, h1, h2, h3, h4, cv] 28 (0, 0)) := by
  rw [hg.block R (by omega) (fun e => by have := hol R e.symm; omega), ← h.cell]
  exact (gAQ V o).block R hlt (by nofun)
 have hgN : B<=gN := by
  rcases hat with e | e
  ·exact hol _ e
  ·omega
 have hset := gSQ w4 R 5 (.slice (some ⟨gN, 0, none⟩) (ds.length + 1) cN)
 refine ⟨heap_set_same hR4 _, ?_, ?_, hlo, ?_⟩
 ·rw [List.length_append, conCells_app]
  have e : cCQ [y] = cEQ y := by simp [cCQ]
  rw [e]
  exact hown.kept hset (.inr (fun e => by have e2 : gN = R := oJQ e; omega))
 ·intro z hz
  have hz' : IsCon (fun b => (P b/\b ≠ R)/\cv.ownBlock ≠ some b) V z := by
   rcases List.mem_append.1 hz with hz | hz
   ·exact h.els z hz
   ·rw [List.mem_singleton.1 hz]; exact hy
  have hk : IsCon (fun b => ((P b/\b ≠ R)/\cv.ownBlock ≠ some b)/\b < V.heap.size) (w4.setCell ⟨R, 5, none⟩ (.slice (some ⟨gN, 0, none⟩) (ds.length + 1) cN)) z := by
   refine hz'.lt.keep (by have := hset.size; omega) (fun b hb hlt => ?_)
   rw [hset.block b (by omega) (fun e => hb.1.1.2 (oJQ e)), hg.block b (by omega) (fun e => hb.1.2 e.symm)]
   exact (gAQ V o).block b hlt (by nofun)
  refine hk.mono (fun b hb _ => ⟨hb.1.1, fun e => ?_⟩)
  have e : gN = b := oJQ e
  rcases hat with e2 | e2
  ·exact hb.1.2 (by rw [e2, e])
  ·omega
 ·have := hset.size; omega
end Go.Proofs.YtkiffgdinmpljaaGreatDoor
