/- What the rows of law 46 list: a world for the witnesses. -/
import Derived.Test.YtbcbjefonkbjnaaDoorLaw
import Derived.Test.YtbcbjefonkbjnaaDoorCards
import Derived.Test.YtbcbjefonkbjnaaDoorTie
import Derived.Deep.DeepHandedRow
import Derived.Deep.DeepWitnessRowRef
import Derived.Lib.LaidTab
namespace Go.Proofs.YtbcbjefonkbjnaaDoor
open Go Go.RowKit Go.ChangeShapes Go.WideShapes Go.ChangeAt

theorem own : ownKnob Tryd.prog.godebug = none := by kernel_rfl
theorem laidOut : laidOutB Tryd.prog = true := by kernel_rfl

/-- Plain data as cells. -/
def flatD : Nat → DataW Unit → List Value
  | _ + 1, .lit l => [l.value]
  | n + 1, .agg ds => ds.flatMap (flatD n)
  | _, _ => []
def fillObj (cs : List Value) : Obj → Obj
  | .cells _ t frozen => .cells cs.toArray t frozen
  | o => o

/-- No number twice, by a set of bits. -/
def nodupB : List Nat → Nat → Bool
  | [], _ => true
  | c :: l, acc => !(acc.testBit c) && nodupB l (acc ||| (1 <<< c))
theorem nodupB_ok : ∀ (l : List Nat) (acc : Nat), nodupB l acc = true → l.Nodup ∧ ∀ c ∈ l, acc.testBit c = false
  | [], _, _ => ⟨List.nodup_nil, fun _ h => by cases h⟩
  | c :: l, acc, h => by
    simp only [nodupB, Bool.and_eq_true, Bool.not_eq_true'] at h
    obtain ⟨h1, h2⟩ := nodupB_ok l _ h.2
    refine ⟨List.nodup_cons.2 ⟨fun hc => ?_, h1⟩, fun x hx => ?_⟩
    · have := h2 c hc
      rw [Nat.testBit_or] at this
      simp [Nat.testBit_shiftLeft] at this
    · rcases List.mem_cons.1 hx with rfl | hx
      · exact h.1
      · have := h2 x hx
        rw [Nat.testBit_or, Bool.or_eq_false_iff] at this
        exact this.1
def codeP : MemPlace → Nat
  | .cell b o => b * 1024 + o
  | .map b => b * 1024 + 1023
theorem nodup_places {ps : List MemPlace} (h : nodupB (ps.map codeP) 0 = true) : ps.Nodup := by
  have := (nodupB_ok _ _ h).1
  unfold List.Nodup at this ⊢
  exact (List.pairwise_map.1 this).imp fun hne he => hne (by rw [he])
/-- The listed variables read so: three closed facts. -/
theorem laidMet_by {P : Program} {w : World} {l : List (String × DataW Unit)} (fuel : Nat) (h : (DataW.laidRun P w fuel (l.map (·.1))).map (·.1) = some l)
    (hn : (DataW.laidRun P w fuel (l.map (·.1))).map (fun x => nodupB (x.2.map codeP) 0 && laidRowsB P w x.2) = some true) : laidMet P l w := by
  refine laidMet_of_run' fuel h ?_
  cases hx : DataW.laidRun P w fuel (l.map (·.1)) with
  | none => simp [hx] at hn
  | some x =>
    rw [hx] at hn
    simp only [Option.map_some, Option.some.injEq, Bool.and_eq_true] at hn ⊢
    exact ⟨decide_eq_true (nodup_places hn.1), hn.2⟩

/-- A WORLD FOR THE WITNESS: the settled one, with the listed tables laid. -/
noncomputable def laidWorld (os : Os) : World :=
  { World.holding Tryd.prog os ⟨#[], #[], []⟩ with heap :=
      ((((World.holding Tryd.prog os ⟨#[], #[], []⟩).heap.modify 1 (fillObj (flatD 8 Rows.laid_math_bits_deBruijn32tab))).modify 2 (fillObj (flatD 8 Rows.laid_math_bits_deBruijn64tab))).modify 0 (fillObj (flatD 8 Rows.laid_internal_strconv_uint64pow10))) }
theorem laid_met1 (os : Os) (args : Array Value) : laidMet Tryd.prog Rows.bytecodeInstrsRow.laid ((laidWorld os).forCall (fun _ _ => 0) ⟨#[], args, []⟩).memory :=
  laidMet_by 8 (by kernel_rfl) (by kernel_rfl)
theorem laid_met (os : Os) (args : Array Value) : laidMetH Tryd.prog Rows.bytecodeInstrsRow.laid ((laidWorld os).forCall (fun _ _ => 0) ⟨#[], args, []⟩).memory := by
  rw [MakeChecks.laidMetH_plain _ _ _ (by kernel_rfl)]; exact laid_met1 os args
end Go.Proofs.YtbcbjefonkbjnaaDoor
