/- What the rows' lists give the calls: the table of spaces, and the library's MaxLen. A world for the witnesses. -/
import Derived.Test.YtbjjimfdbbhjgaaDoorLaws1
import Derived.Test.YtbjjimfdbbhjgaaDoorLaw
import Derived.Test.YtbjjimfdbbhjgaaDoorCards
import Derived.Test.YtbjjimfdbbhjgaaDoorTie
import Derived.Deep.DeepHandedRow
import Derived.Deep.DeepWitnessRowRef
import Derived.Lib.LaidTab
import Derived.Lib.LaidU8
import Derived.SliceStrings
namespace Go.Proofs.YtbjjimfdbbhjgaaDoor
open Go Go.RowKit Go.ChangeShapes Go.WideShapes Go.ChangeAt

theorem own : ownKnob Tryd.prog.godebug = none := by kernel_rfl
theorem laidOut : laidOutB Tryd.prog = true := by kernel_rfl

/-- Plain data as cells. -/
def flatD : Nat → DataW Unit → List Value
  | _ + 1, .lit l => [l.value]
  | n + 1, .agg ds => ds.flatMap (flatD n)
  | _, _ => []
def fillObj (cs : List Value) : Obj → Obj
  | .cells _ t frozen => .cells cs.toArray t frozen
  | o => o

/-- No number twice, by a set of bits. -/
def nodupB : List Nat → Nat → Bool
  | [], _ => true
  | c :: l, acc => !(acc.testBit c) && nodupB l (acc ||| (1 <<< c))
theorem nodupB_ok : ∀ (l : List Nat) (acc : Nat), nodupB l acc = true → l.Nodup ∧ ∀ c ∈ l, acc.testBit c = false
  | [], _, _ => ⟨List.nodup_nil, fun _ h => by cases h⟩
  | c :: l, acc, h => by
    simp only [nodupB, Bool.and_eq_true, Bool.not_eq_true'] at h
    obtain ⟨h1, h2⟩ := nodupB_ok l _ h.2
    refine ⟨List.nodup_cons.2 ⟨fun hc => ?_, h1⟩, fun x hx => ?_⟩
    · have := h2 c hc
      rw [Nat.testBit_or] at this
      simp [Nat.testBit_shiftLeft] at this
    · rcases List.mem_cons.1 hx with rfl | hx
      · exact h.1
      · have := h2 x hx
        rw [Nat.testBit_or, Bool.or_eq_false_iff] at this
        exact this.1
def codeP : MemPlace → Nat
  | .cell b o => b * 1024 + o
  | .map b => b * 1024 + 1023
theorem nodup_places {ps : List MemPlace} (h : nodupB (ps.map codeP) 0 = true) : ps.Nodup := by
  have := (nodupB_ok _ _ h).1
  unfold List.Nodup at this ⊢
  exact (List.pairwise_map.1 this).imp fun hne he => hne (by rw [he])
/-- The listed variables read so: three closed facts. -/
theorem laidMet_by {P : Program} {w : World} {l : List (String × DataW Unit)} (fuel : Nat) (h : (DataW.laidRun P w fuel (l.map (·.1))).map (·.1) = some l)
    (hn : (DataW.laidRun P w fuel (l.map (·.1))).map (fun x => nodupB (x.2.map codeP) 0 && laidRowsB P w x.2) = some true) : laidMet P l w := by
  refine laidMet_of_run' fuel h ?_
  cases hx : DataW.laidRun P w fuel (l.map (·.1)) with
  | none => simp [hx] at hn
  | some x =>
    rw [hx] at hn
    simp only [Option.map_some, Option.some.injEq, Bool.and_eq_true] at hn ⊢
    exact ⟨decide_eq_true (nodup_places hn.1), hn.2⟩

/-- A WORLD FOR THE WITNESS: the settled one, with the listed tables laid. -/
noncomputable def laidWorld (os : Os) : World :=
  { World.holding Tryd.prog os ⟨#[], #[], []⟩ with heap :=
      (((((World.holding Tryd.prog os ⟨#[], #[], []⟩).heap.modify 1 (fillObj (flatD 8 Rows.laid_strings_asciiSpace))).modify 5 (fillObj (flatD 8 Rows.laid_unicode_utf8_first))).modify
        6 (fillObj (flatD 8 Rows.laid_unicode_utf8_acceptRanges))).modify 2 (fillObj [.pointer (some ⟨(World.holding Tryd.prog os ⟨#[], #[], []⟩).heap.size, 0, none⟩)])) ++
      (match Rows.laid_unicode_White_Space (H := Unit) with
        | .ptr (.agg (.slice els _ :: _)) =>
          #[Obj.cells #[.slice (some ⟨(World.holding Tryd.prog os ⟨#[], #[], []⟩).heap.size + 1, 0, none⟩) els.length els.length, .slice none 0 0, .int .i64 2] 113 (0, 0), Obj.cells (els.flatMap (flatD 8)).toArray 116 (0, 0)]
        | _ => #[]) }
theorem laid_met1 (os : Os) (args : Array Value) : laidMet Tryd.prog Rows.identNamesRow.laid ((laidWorld os).forCall (fun _ _ => 0) ⟨#[], args, []⟩).memory :=
  laidMet_by 8 (by kernel_rfl) (by kernel_rfl)

theorem laid_met (os : Os) (args : Array Value) : laidMetH Tryd.prog Rows.identNamesRow.laid ((laidWorld os).forCall (fun _ _ => 0) ⟨#[], args, []⟩).memory := by
  rw [MakeChecks.laidMetH_plain _ _ _ (by kernel_rfl)]; exact laid_met1 os args

theorem gTab : Tryd.prog.globalNamed "strings.asciiSpace" = some 1 := by kernel_rfl
theorem tTab : (Tryd.prog.globals[1]?).map (·.type) = some 77 := by kernel_rfl
theorem spaceTab {W : World} (h : Lib.VarReads Tryd.prog W "strings.asciiSpace" Rows.laid_strings_asciiSpace) : Lib.TabIs Tryd.prog W "strings.asciiSpace" .u8 Lib.asciiSpaceTab := by
  have e : (Rows.laid_strings_asciiSpace : DataW Unit) = Lib.tabData .u8 Lib.asciiSpaceTab := by kernel_rfl
  rw [e] at h
  obtain ⟨g, t, cs, fuel, p, hg, ht, hvar, hd⟩ := h
  obtain rfl := Option.some.inj (gTab.symm.trans hg)
  obtain rfl := Option.some.inj (tTab.symm.trans ht)
  unfold Lib.TabIs
  rw [hvar, ← Lib.cells_of_tab Tryd.underlying77 Tryd.underlying5 (by kernel_rfl) (by kernel_rfl) hd]

theorem envOf {W : World} (h : W.ShapedOpen Tryd.prog) (hl : laidMetH Tryd.prog Rows.identNamesRow.laid W) : Env W := by
  rw [MakeChecks.laidMetH_plain _ _ _ (by kernel_rfl)] at hl
  refine ⟨spaceTab (Lib.laidMet.reads hl (by simp [Rows.identNamesRow])), ?_, ?_⟩
  · exact Go.Proofs.cell_of_shapedOpen_int (zero := #[.int .i64 0]) (t := 3) h (of_decide_eq_true (by kernel_rfl)) (by kernel_rfl) rfl (by kernel_rfl) (by kernel_rfl) Tryd.underlying3
  · obtain ⟨m, hm⟩ : ∃ m : Int, W.cell? ⟨0, 0, none⟩ = some (.int .i64 m) :=
      Go.Proofs.cell_of_shapedOpen_int (zero := #[.int .i64 0]) (t := 3) h (of_decide_eq_true (by kernel_rfl)) (by kernel_rfl) rfl (by kernel_rfl) (by kernel_rfl) Tryd.underlying3
    rcases Nat.lt_or_ge 0 W.heap.size with h' | h'
    · exact h'
    · simp [World.cell?, Array.getElem?_eq_none h'] at hm
end Go.Proofs.YtbjjimfdbbhjgaaDoor
