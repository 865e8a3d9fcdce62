/-
  DERIVED. GIVEN WITH THE SEED: THE CARDS: each row of YtkiffgdinmpljaaGreatDoorRows.lean that lists a variable, with what it lists TIED to the program's text (the seventh form; the later family's looks); each row that meets fmt, with fmt's text TOLD by the authors' own Lean function (tested against real Go, not proved from fmt's source: count such statements apart). THE CARD IS WHAT COUNTS. Prove the row's statement (the work); the ties are given (YtkiffgdinmpljaaGreatDoorTie.lean); close each card by the builder's one call (the guide's Derived/Test/ToyasCard.lean, 'card_holds'). Laid BY PROGRAM, IN A SANDBOX (cutbox-door.mjs). By AI agents, Wed Nov 11 2026. No macro, syntax, notation, axiom, sorry.
-/
import Derived.Test.YtkiffgdinmpljaaGreatDoorRows
import GoSem.ClaimSeven
namespace Go.Proofs.YtkiffgdinmpljaaGreatDoor
namespace Rows

/-- THE TIED CARD OF 'pilasterlaw11.NormalForms'. -/
def normalFormsCard : Claim7 := { stood := { row := normalFormsRow, standIns := [], harness := (true, "3e57ec115100607c082f201dea99583980c6415f33e38921e6d4e303f129d76b"), looks := true }, kinds := [], alts := [], laidByText := true, laidKinds := [.data, .data, .data, .sentinel, .sentinel], laidTests := true, laidLooks := .later }
def NormalFormsCardSaid : Prop := Claim7.holds Tryz.pinned (.plain (OpenSpec.ofChange normalFormsSpec)) normalFormsCard

/-- THE TIED CARD OF 'pilasterlaw11.NormalHeads'. -/
def normalHeadsCard : Claim7 := { stood := { row := normalHeadsRow, standIns := [], harness := (true, "3e57ec115100607c082f201dea99583980c6415f33e38921e6d4e303f129d76b"), looks := true }, kinds := [], alts := [], laidByText := true, laidKinds := [.data, .data, .data, .sentinel, .sentinel], laidTests := true, laidLooks := .later }
def NormalHeadsCardSaid : Prop := Claim7.holds Tryz.pinned (.plain (OpenSpec.ofChange normalHeadsSpec)) normalHeadsCard

/-- THE TIED CARD OF 'pilasterlaw11.NormalAgain'. -/
def normalAgainCard : Claim7 := { stood := { row := normalAgainRow, standIns := [], harness := (true, "3e57ec115100607c082f201dea99583980c6415f33e38921e6d4e303f129d76b"), looks := true }, kinds := [], alts := [], laidByText := true, laidKinds := [.data, .data, .data, .sentinel, .sentinel], laidTests := true, laidLooks := .later }
def NormalAgainCardSaid : Prop := Claim7.holds Tryz.pinned (.plain (OpenSpec.ofChange normalAgainSpec)) normalAgainCard

/-- THE SECOND FORM's CARD OF 'pilasterlaw11.NormalForms'. -/
def normalFormsUptoCard : Claim7 := { stood := { row := normalFormsUptoRow, standIns := [], harness := (true, "3e57ec115100607c082f201dea99583980c6415f33e38921e6d4e303f129d76b"), looks := true }, kinds := [], alts := [], laidByText := true, laidKinds := [.data, .data, .data, .sentinel, .sentinel], laidTests := true, laidLooks := .later }
def NormalFormsUptoCardSaid : Prop := Claim7.holds Tryz.pinned (.plain (OpenSpec.upto normalFormsSpec)) normalFormsUptoCard

/-- THE SECOND FORM's CARD OF 'pilasterlaw11.NormalHeads'. -/
def normalHeadsUptoCard : Claim7 := { stood := { row := normalHeadsUptoRow, standIns := [], harness := (true, "3e57ec115100607c082f201dea99583980c6415f33e38921e6d4e303f129d76b"), looks := true }, kinds := [], alts := [], laidByText := true, laidKinds := [.data, .data, .data, .sentinel, .sentinel], laidTests := true, laidLooks := .later }
def NormalHeadsUptoCardSaid : Prop := Claim7.holds Tryz.pinned (.plain (OpenSpec.upto normalHeadsSpec)) normalHeadsUptoCard

/-- THE SECOND FORM's CARD OF 'pilasterlaw11.NormalAgain'. -/
def normalAgainUptoCard : Claim7 := { stood := { row := normalAgainUptoRow, standIns := [], harness := (true, "3e57ec115100607c082f201dea99583980c6415f33e38921e6d4e303f129d76b"), looks := true }, kinds := [], alts := [], laidByText := true, laidKinds := [.data, .data, .data, .sentinel, .sentinel], laidTests := true, laidLooks := .later }
def NormalAgainUptoCardSaid : Prop := Claim7.holds Tryz.pinned (.plain (OpenSpec.upto normalAgainSpec)) normalAgainUptoCard
end Rows
end Go.Proofs.YtkiffgdinmpljaaGreatDoor
