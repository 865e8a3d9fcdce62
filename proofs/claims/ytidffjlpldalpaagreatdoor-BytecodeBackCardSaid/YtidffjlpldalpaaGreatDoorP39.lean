/- What the rows of BytecodeTexts and BytecodeBack list: their world for the witness, and what they give the calls. -/
import Derived.Test.YtidffjlpldalpaaGreatDoorP38
import Derived.Test.YtidffjlpldalpaaGreatDoorP11
import Derived.Test.YtidffjlpldalpaaGreatDoorLaw
import Derived.Lib.LaidTab
import Derived.Lib.LaidU8
import Derived.Test.YtidffjlpldalpaaGreatDoorCards
import Derived.Test.YtidffjlpldalpaaGreatDoorTie
import Derived.Deep.DeepHandedRow
import Derived.Deep.DeepWitnessRowRef
set_option linter.unusedVariables false
set_option linter.unusedSimpArgs false
namespace Go.Proofs.YtidffjlpldalpaaGreatDoor
open Go Go.RowKit Go.ChangeShapes Go.WideShapes Go.ChangeAt

theorem own : ownKnob Tryz.prog.godebug = none := by kernel_rfl
theorem laidOut : laidOutB Tryz.prog = true := by kernel_rfl

/-- Plain data as cells. -/
def flatD : Nat → DataW Unit → List Value
  | _ + 1, .lit l => [l.value]
  | n + 1, .agg ds => ds.flatMap (flatD n)
  | _, _ => []
def fillObj (cs : List Value) : Obj → Obj
  | .cells _ t frozen => .cells cs.toArray t frozen
  | o => o

/-- No number twice, by a set of bits. -/
def nodupB : List Nat → Nat → Bool
  | [], _ => true
  | c :: l, acc => !(acc.testBit c) && nodupB l (acc ||| (1 <<< c))
theorem nodupB_ok : ∀ (l : List Nat) (acc : Nat), nodupB l acc = true → l.Nodup ∧ ∀ c ∈ l, acc.testBit c = false
  | [], _, _ => ⟨List.nodup_nil, fun _ h => by cases h⟩
  | c :: l, acc, h => by
    simp only [nodupB, Bool.and_eq_true, Bool.not_eq_true'] at h
    obtain ⟨h1, h2⟩ := nodupB_ok l _ h.2
    refine ⟨List.nodup_cons.2 ⟨fun hc => ?_, h1⟩, fun x hx => ?_⟩
    · have := h2 c hc
      rw [Nat.testBit_or] at this
      simp [Nat.testBit_shiftLeft] at this
    · rcases List.mem_cons.1 hx with rfl | hx
      · exact h.1
      · have := h2 x hx
        rw [Nat.testBit_or, Bool.or_eq_false_iff] at this
        exact this.1
def codeP : MemPlace → Nat
  | .cell b o => b * 1024 + o
  | .map b => b * 1024 + 1023
theorem nodup_places {ps : List MemPlace} (h : nodupB (ps.map codeP) 0 = true) : ps.Nodup := by
  have := (nodupB_ok _ _ h).1
  unfold List.Nodup at this ⊢
  exact (List.pairwise_map.1 this).imp fun hne he => hne (by rw [he])
/-- The listed variables read so: three closed facts. -/
theorem laidMet_by {P : Program} {w : World} {l : List (String × DataW Unit)} (fuel : Nat) (h : (DataW.laidRun P w fuel (l.map (·.1))).map (·.1) = some l)
    (hn : (DataW.laidRun P w fuel (l.map (·.1))).map (fun x => nodupB (x.2.map codeP) 0 && laidRowsB P w x.2) = some true) : laidMet P l w := by
  refine laidMet_of_run' fuel h ?_
  cases hx : DataW.laidRun P w fuel (l.map (·.1)) with
  | none => simp [hx] at hn
  | some x =>
    rw [hx] at hn
    simp only [Option.map_some, Option.some.injEq, Bool.and_eq_true] at hn ⊢
    exact ⟨decide_eq_true (nodup_places hn.1), hn.2⟩

/-- A WORLD FOR THE WITNESS: the settled one, with the listed tables and errors laid. -/
noncomputable def laidWorld (os : Os) : World :=
  { World.holding Tryz.prog os ⟨#[], #[], []⟩ with heap :=
      ((((((((World.holding Tryz.prog os ⟨#[], #[], []⟩).heap.modify 4 (fillObj (flatD 8 Rows.laid_math_bits_deBruijn32tab))).modify 5 (fillObj (flatD 8 Rows.laid_math_bits_deBruijn64tab))).modify 0 (fillObj (flatD 8 Rows.laid_internal_strconv_uint64pow10))).modify 3 (fillObj (flatD 8 Rows.laid_unicode_utf8_acceptRanges))).modify 2 (fillObj (flatD 8 Rows.laid_unicode_utf8_first))).modify 7 (fillObj [.iface 165 (.pointer (some ⟨(World.holding Tryz.prog os ⟨#[], #[], []⟩).heap.size, 0, none⟩))])).modify 6 (fillObj [.iface 165 (.pointer (some ⟨(World.holding Tryz.prog os ⟨#[], #[], []⟩).heap.size + 1, 0, none⟩))])) ++
      #[Obj.cells #[.string ⟨#[118, 97, 108, 117, 101, 32, 111, 117, 116, 32, 111, 102, 32, 114, 97, 110, 103, 101]⟩] 167 (0, 0), Obj.cells #[.string ⟨#[105, 110, 118, 97, 108, 105, 100, 32, 115, 121, 110, 116, 97, 120]⟩] 167 (0, 0)] }
theorem laid_met1 (os : Os) (args : Array Value) : laidMet Tryz.prog Rows.bytecodeBackRow.laid ((laidWorld os).forCall (fun _ _ => 0) ⟨#[], args, []⟩).memory :=
  laidMet_by 8 (by kernel_rfl) (by kernel_rfl)
theorem laid_met (os : Os) (args : Array Value) : laidMetH Tryz.prog Rows.bytecodeBackRow.laid ((laidWorld os).forCall (fun _ _ => 0) ⟨#[], args, []⟩).memory := by
  rw [MakeChecks.laidMetH_plain _ _ _ (by kernel_rfl)]; exact laid_met1 os args
theorem gPow : Tryz.prog.globalNamed "internal/strconv.uint64pow10" = some 0 := by kernel_rfl
theorem gErr : Tryz.prog.globalNamed "strconv.ErrRange" = some 7 := by kernel_rfl
theorem tErr : (Tryz.prog.globals[7]?).map (·.type) = some 54 := by kernel_rfl
theorem envOf {W : World} (h : W.ShapedOpen Tryz.prog) (hl : laidMetH Tryz.prog Rows.bytecodeBackRow.laid W) : EnvB W := by
  rw [MakeChecks.laidMetH_plain _ _ _ (by kernel_rfl)] at hl
  refine ⟨⟨?_, ?_, ?_⟩, ?_⟩
  · exact Go.Proofs.cell_of_shapedOpen_int (zero := #[.int .i64 0]) (t := 3) h (of_decide_eq_true (by kernel_rfl)) (by kernel_rfl) rfl (by kernel_rfl) (by kernel_rfl) Tryz.underlying3
  · obtain ⟨m, hm⟩ : ∃ m : Int, W.cell? ⟨1, 0, none⟩ = some (.int .i64 m) :=
      Go.Proofs.cell_of_shapedOpen_int (zero := #[.int .i64 0]) (t := 3) h (of_decide_eq_true (by kernel_rfl)) (by kernel_rfl) rfl (by kernel_rfl) (by kernel_rfl) Tryz.underlying3
    rcases Nat.lt_or_ge 1 W.heap.size with h' | h'
    · exact h'
    · simp [World.cell?, Array.getElem?_eq_none h'] at hm
  · obtain ⟨g, t, cs, fuel, p, hg, ht, hvar, hd⟩ : Lib.VarReads Tryz.prog W "strconv.ErrRange" Rows.laid_strconv_ErrRange := Lib.laidMet.reads hl (by simp [Rows.bytecodeBackRow])
    obtain rfl := Option.some.inj (gErr.symm.trans hg)
    obtain rfl := Option.some.inj (tErr.symm.trans ht)
    obtain ⟨_, u, v, hcs, _⟩ := iface_of_trod Tryz.underlying54 hd
    refine ⟨u, v, ?_⟩
    rw [hvar]
    congr 1
    exact Array.toList_inj.1 hcs
  · have h : Lib.VarReads Tryz.prog W "internal/strconv.uint64pow10" Rows.laid_internal_strconv_uint64pow10 := Lib.laidMet.reads hl (by simp [Rows.bytecodeBackRow])
    have e : (Rows.laid_internal_strconv_uint64pow10 : DataW Unit) = Lib.tabData .u64 Lib.pow10Tab := by kernel_rfl
    rw [e] at h
    obtain ⟨g, t, cs, fuel, p, hg, ht, hvar, hd⟩ := h
    obtain rfl := Option.some.inj (gPow.symm.trans hg)
    obtain rfl := Option.some.inj ((show (Tryz.prog.globals[0]?).map (·.type) = some 138 by kernel_rfl).symm.trans ht)
    unfold ITab Lib.TabIs
    rw [hvar, ← Lib.cells_of_tab Tryz.underlying138 Tryz.underlying127 (by kernel_rfl) (by kernel_rfl) hd]
theorem u8s_flat : ∀ l : List Int, l.flatMap (fun z : Int => [Value.int .u8 z]) = u8s l
  | [] => rfl
  | x :: l => by rw [List.flatMap_cons, u8s_flat l]; rfl
theorem cells_u8 : Tryz.prog.cellsOf 5 = 1 := by kernel_rfl
theorem bytes_open {H : Type} {enc : TypeId × Value → H} {W : World} {sp : Nat → Bool} {n : Nat} {cs : List Value} {x : DataW H × List MemPlace} (h : DataW.trod enc Tryz.prog W 0 sp true n 38 cs = some x) : ∃ v l, cs = [v] ∧ IsRow W v l.length (u8s l) ∧ AreBytes l ∧ l.length ≤ maxLen := by
  obtain ⟨v, l, hv, hr, hq, hm⟩ := row_open (fun z : Int => [.int .u8 z]) (fun z => 0 ≤ z ∧ z < 256) 1 (by decide) (fun _ => rfl) Tryz.underlying38 cells_u8 (fun n cs x h => by
    obtain ⟨k, rfl, _, hk⟩ := DataW.trod_int Tryz.underlying5 h
    exact ⟨k, rfl, wf_u8 k hk⟩) h
  rw [u8s_flat] at hr
  exact ⟨v, l, hv, hr, hq, hm⟩
end Go.Proofs.YtidffjlpldalpaaGreatDoor
