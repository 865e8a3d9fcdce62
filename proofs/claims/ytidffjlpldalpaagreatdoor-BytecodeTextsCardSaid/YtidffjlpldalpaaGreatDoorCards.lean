/-
  DERIVED. GIVEN WITH THE SEED: THE CARDS: each row of YtidffjlpldalpaaGreatDoorRows.lean that lists a variable, with what it lists TIED to the program's text (the seventh form; the later family's looks); each row that meets fmt, with fmt's text TOLD by the authors' own Lean function (tested against real Go, not proved from fmt's source: count such statements apart). THE CARD IS WHAT COUNTS. Prove the row's statement (the work); the ties are given (YtidffjlpldalpaaGreatDoorTie.lean); close each card by the builder's one call (the guide's Derived/Test/ToyasCard.lean, 'card_holds'). Laid BY PROGRAM, IN A SANDBOX (cutbox-door.mjs). By AI agents, Wed Nov 11 2026. No macro, syntax, notation, axiom, sorry.
-/
import Derived.Test.YtidffjlpldalpaaGreatDoorRows
import GoSem.ClaimSeven
namespace Go.Proofs.YtidffjlpldalpaaGreatDoor
namespace Rows

/-- THE TIED CARD OF 'pilasterlaw46.BytecodeTexts'. -/
def bytecodeTextsCard : Claim7 := { stood := { row := bytecodeTextsRow, standIns := [], harness := (true, "6b1b4c228ad5367d8ba5cfd934907e6d8a17cee1ed031b638b8e4fcbf8e7bd56"), looks := true }, kinds := [], alts := [], laidByText := true, laidKinds := [.data, .data, .data, .data, .sentinel, .sentinel, .pinned], laidTests := true, laidLooks := .later }
def BytecodeTextsCardSaid : Prop := Claim7.holds Tryz.pinned (.plain (OpenSpec.ofChange bytecodeTextsSpec)) bytecodeTextsCard

/-- THE TIED CARD OF 'pilasterlaw46.BytecodeBack'. -/
def bytecodeBackCard : Claim7 := { stood := { row := bytecodeBackRow, standIns := [], harness := (true, "6b1b4c228ad5367d8ba5cfd934907e6d8a17cee1ed031b638b8e4fcbf8e7bd56"), looks := true }, kinds := [], alts := [], laidByText := true, laidKinds := [.data, .data, .data, .data, .sentinel, .sentinel, .pinned], laidTests := true, laidLooks := .later }
def BytecodeBackCardSaid : Prop := Claim7.holds Tryz.pinned (.plain (OpenSpec.ofChange bytecodeBackSpec)) bytecodeBackCard

/-- THE SECOND FORM's CARD OF 'pilasterlaw46.BytecodeTexts'. -/
def bytecodeTextsUptoCard : Claim7 := { stood := { row := bytecodeTextsUptoRow, standIns := [], harness := (true, "6b1b4c228ad5367d8ba5cfd934907e6d8a17cee1ed031b638b8e4fcbf8e7bd56"), looks := true }, kinds := [], alts := [], laidByText := true, laidKinds := [.data, .data, .data, .data, .sentinel, .sentinel, .pinned], laidTests := true, laidLooks := .later }
def BytecodeTextsUptoCardSaid : Prop := Claim7.holds Tryz.pinned (.plain (OpenSpec.upto bytecodeTextsSpec)) bytecodeTextsUptoCard

/-- THE SECOND FORM's CARD OF 'pilasterlaw46.BytecodeBack'. -/
def bytecodeBackUptoCard : Claim7 := { stood := { row := bytecodeBackUptoRow, standIns := [], harness := (true, "6b1b4c228ad5367d8ba5cfd934907e6d8a17cee1ed031b638b8e4fcbf8e7bd56"), looks := true }, kinds := [], alts := [], laidByText := true, laidKinds := [.data, .data, .data, .data, .sentinel, .sentinel, .pinned], laidTests := true, laidLooks := .later }
def BytecodeBackUptoCardSaid : Prop := Claim7.holds Tryz.pinned (.plain (OpenSpec.upto bytecodeBackSpec)) bytecodeBackUptoCard
end Rows
end Go.Proofs.YtidffjlpldalpaaGreatDoor
