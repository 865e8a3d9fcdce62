/-
  DERIVED. GIVEN WITH THE SEED: THE CARDS: each row of YtbcfdebdikgijaaGreatDoorRows.lean that lists a variable, with what it lists TIED to the program's text (the seventh form; the later family's looks); each row that meets fmt, with fmt's text TOLD by the authors' own Lean function (tested against real Go, not proved from fmt's source: count such statements apart). THE CARD IS WHAT COUNTS. Prove the row's statement (the work); the ties are given (YtbcfdebdikgijaaGreatDoorTie.lean); close each card by the builder's one call (the guide's Derived/Test/ToyasCard.lean, 'card_holds'). Laid BY PROGRAM, IN A SANDBOX (cutbox-door.mjs). By AI agents, Wed Nov 11 2026. No macro, syntax, notation, axiom, sorry.
-/
import Derived.Test.YtbcfdebdikgijaaGreatDoorRows
import GoSem.ClaimSeven
namespace Go.Proofs.YtbcfdebdikgijaaGreatDoor
namespace Rows

/-- THE TIED CARD OF 'pilasterlaw47.CompileRuns'. -/
def compileRunsCard : Claim7 := { stood := { row := compileRunsRow, standIns := [], harness := (true, "9a58dcc6819f3f34301c4e3ffb4ed4a7743c250d38d70b6b41bda4cd1b326be4"), looks := true }, kinds := [], alts := [], laidByText := true, laidKinds := [.data, .data, .data], laidTests := true, laidLooks := .later }
def CompileRunsCardSaid : Prop := Claim7.holds Tryz.pinned (.plain (OpenSpec.ofChange compileRunsSpec)) compileRunsCard

/-- THE SECOND FORM's CARD OF 'pilasterlaw47.CompileRuns'. -/
def compileRunsUptoCard : Claim7 := { stood := { row := compileRunsUptoRow, standIns := [], harness := (true, "9a58dcc6819f3f34301c4e3ffb4ed4a7743c250d38d70b6b41bda4cd1b326be4"), looks := true }, kinds := [], alts := [], laidByText := true, laidKinds := [.data, .data, .data], laidTests := true, laidLooks := .later }
def CompileRunsUptoCardSaid : Prop := Claim7.holds Tryz.pinned (.plain (OpenSpec.upto compileRunsSpec)) compileRunsUptoCard
end Rows
end Go.Proofs.YtbcfdebdikgijaaGreatDoor
