/-
  DERIVED. GIVEN WITH THE SEED: THE CARDS: each row of YtbjjimfdbbhjgaaDoorRows.lean that lists a variable, with what it lists TIED to the program's text (the seventh form; the later family's looks); each row that meets fmt, with fmt's text TOLD by the authors' own Lean function (tested against real Go, not proved from fmt's source: count such statements apart). THE CARD IS WHAT COUNTS. Prove the row's statement (the work); the ties are given (YtbjjimfdbbhjgaaDoorTie.lean); close each card by the builder's one call (the guide's Derived/Test/ToyasCard.lean, 'card_holds'). Laid BY PROGRAM, IN A SANDBOX (cutbox-door.mjs). By AI agents, Wed Nov 11 2026. No macro, syntax, notation, axiom, sorry.
-/
import Derived.Test.YtbjjimfdbbhjgaaDoorRows
import GoSem.ClaimSeven
namespace Go.Proofs.YtbjjimfdbbhjgaaDoor
namespace Rows

/-- THE TIED CARD OF 'pilasterlaw01.IdentLabels'. -/
def identLabelsCard : Claim7 := { stood := { row := identLabelsRow, standIns := [], harness := (true, "1e42c4e4db0ef21afa2b28852aa8828c6299fb0d0a50b41aca4c25c61e4f9d09"), looks := true }, kinds := [], alts := [], laidByText := true, laidKinds := [.data, .listed, .data, .pinned], laidTests := true, laidLooks := .later }
def IdentLabelsCardSaid : Prop := Claim7.holds Tryd.pinned (.plain (OpenSpec.ofChange identLabelsSpec)) identLabelsCard

/-- THE TIED CARD OF 'pilasterlaw01.IdentNames'. -/
def identNamesCard : Claim7 := { stood := { row := identNamesRow, standIns := [], harness := (true, "1e42c4e4db0ef21afa2b28852aa8828c6299fb0d0a50b41aca4c25c61e4f9d09"), looks := true }, kinds := [], alts := [], laidByText := true, laidKinds := [.data, .listed, .data, .pinned], laidTests := true, laidLooks := .later }
def IdentNamesCardSaid : Prop := Claim7.holds Tryd.pinned (.plain (OpenSpec.ofChange identNamesSpec)) identNamesCard

/-- THE TIED CARD OF 'pilasterlaw01.IdentLists'. -/
def identListsCard : Claim7 := { stood := { row := identListsRow, standIns := [], harness := (true, "1e42c4e4db0ef21afa2b28852aa8828c6299fb0d0a50b41aca4c25c61e4f9d09"), looks := true }, kinds := [], alts := [], laidByText := true, laidKinds := [.data, .listed, .data, .pinned], laidTests := true, laidLooks := .later }
def IdentListsCardSaid : Prop := Claim7.holds Tryd.pinned (.plain (OpenSpec.ofChange identListsSpec)) identListsCard

/-- THE TIED CARD OF 'pilasterlaw01.IdentApart'. -/
def identApartCard : Claim7 := { stood := { row := identApartRow, standIns := [], harness := (true, "1e42c4e4db0ef21afa2b28852aa8828c6299fb0d0a50b41aca4c25c61e4f9d09"), looks := true }, kinds := [], alts := [], laidByText := true, laidKinds := [.data, .listed, .data, .pinned], laidTests := true, laidLooks := .later }
def IdentApartCardSaid : Prop := Claim7.holds Tryd.pinned (.plain (OpenSpec.ofChange identApartSpec)) identApartCard

/-- THE TIED CARD OF 'pilasterlaw01.IdentPaths'. -/
def identPathsCard : Claim7 := { stood := { row := identPathsRow, standIns := [], harness := (true, "1e42c4e4db0ef21afa2b28852aa8828c6299fb0d0a50b41aca4c25c61e4f9d09"), looks := true }, kinds := [], alts := [], laidByText := true, laidKinds := [.data, .listed, .data, .pinned], laidTests := true, laidLooks := .later }
def IdentPathsCardSaid : Prop := Claim7.holds Tryd.pinned (.plain (OpenSpec.ofChange identPathsSpec)) identPathsCard

/-- THE TIED CARD OF 'pilasterlaw01.IdentBack'. -/
def identBackCard : Claim7 := { stood := { row := identBackRow, standIns := [], harness := (true, "1e42c4e4db0ef21afa2b28852aa8828c6299fb0d0a50b41aca4c25c61e4f9d09"), looks := true }, kinds := [], alts := [], laidByText := true, laidKinds := [.data, .listed, .data, .pinned], laidTests := true, laidLooks := .later }
def IdentBackCardSaid : Prop := Claim7.holds Tryd.pinned (.plain (OpenSpec.ofChange identBackSpec)) identBackCard

/-- THE TIED CARD OF 'pilasterlaw01.IdentNumbers'. -/
def identNumbersCard : Claim7 := { stood := { row := identNumbersRow, standIns := [], harness := (true, "1e42c4e4db0ef21afa2b28852aa8828c6299fb0d0a50b41aca4c25c61e4f9d09"), looks := true }, kinds := [], alts := [], laidByText := true, laidKinds := [.data, .data, .data, .data, .sentinel, .sentinel, .listed, .data, .pinned], laidTests := true, laidLooks := .later }
def IdentNumbersCardSaid : Prop := Claim7.holds Tryd.pinned (.plain (OpenSpec.ofChange identNumbersSpec)) identNumbersCard

/-- THE SECOND FORM's CARD OF 'pilasterlaw01.IdentLabels'. -/
def identLabelsUptoCard : Claim7 := { stood := { row := identLabelsUptoRow, standIns := [], harness := (true, "1e42c4e4db0ef21afa2b28852aa8828c6299fb0d0a50b41aca4c25c61e4f9d09"), looks := true }, kinds := [], alts := [], laidByText := true, laidKinds := [.data, .listed, .data, .pinned], laidTests := true, laidLooks := .later }
def IdentLabelsUptoCardSaid : Prop := Claim7.holds Tryd.pinned (.plain (OpenSpec.upto identLabelsSpec)) identLabelsUptoCard

/-- THE SECOND FORM's CARD OF 'pilasterlaw01.IdentNames'. -/
def identNamesUptoCard : Claim7 := { stood := { row := identNamesUptoRow, standIns := [], harness := (true, "1e42c4e4db0ef21afa2b28852aa8828c6299fb0d0a50b41aca4c25c61e4f9d09"), looks := true }, kinds := [], alts := [], laidByText := true, laidKinds := [.data, .listed, .data, .pinned], laidTests := true, laidLooks := .later }
def IdentNamesUptoCardSaid : Prop := Claim7.holds Tryd.pinned (.plain (OpenSpec.upto identNamesSpec)) identNamesUptoCard

/-- THE SECOND FORM's CARD OF 'pilasterlaw01.IdentLists'. -/
def identListsUptoCard : Claim7 := { stood := { row := identListsUptoRow, standIns := [], harness := (true, "1e42c4e4db0ef21afa2b28852aa8828c6299fb0d0a50b41aca4c25c61e4f9d09"), looks := true }, kinds := [], alts := [], laidByText := true, laidKinds := [.data, .listed, .data, .pinned], laidTests := true, laidLooks := .later }
def IdentListsUptoCardSaid : Prop := Claim7.holds Tryd.pinned (.plain (OpenSpec.upto identListsSpec)) identListsUptoCard

/-- THE SECOND FORM's CARD OF 'pilasterlaw01.IdentApart'. -/
def identApartUptoCard : Claim7 := { stood := { row := identApartUptoRow, standIns := [], harness := (true, "1e42c4e4db0ef21afa2b28852aa8828c6299fb0d0a50b41aca4c25c61e4f9d09"), looks := true }, kinds := [], alts := [], laidByText := true, laidKinds := [.data, .listed, .data, .pinned], laidTests := true, laidLooks := .later }
def IdentApartUptoCardSaid : Prop := Claim7.holds Tryd.pinned (.plain (OpenSpec.upto identApartSpec)) identApartUptoCard

/-- THE SECOND FORM's CARD OF 'pilasterlaw01.IdentPaths'. -/
def identPathsUptoCard : Claim7 := { stood := { row := identPathsUptoRow, standIns := [], harness := (true, "1e42c4e4db0ef21afa2b28852aa8828c6299fb0d0a50b41aca4c25c61e4f9d09"), looks := true }, kinds := [], alts := [], laidByText := true, laidKinds := [.data, .listed, .data, .pinned], laidTests := true, laidLooks := .later }
def IdentPathsUptoCardSaid : Prop := Claim7.holds Tryd.pinned (.plain (OpenSpec.upto identPathsSpec)) identPathsUptoCard

/-- THE SECOND FORM's CARD OF 'pilasterlaw01.IdentBack'. -/
def identBackUptoCard : Claim7 := { stood := { row := identBackUptoRow, standIns := [], harness := (true, "1e42c4e4db0ef21afa2b28852aa8828c6299fb0d0a50b41aca4c25c61e4f9d09"), looks := true }, kinds := [], alts := [], laidByText := true, laidKinds := [.data, .listed, .data, .pinned], laidTests := true, laidLooks := .later }
def IdentBackUptoCardSaid : Prop := Claim7.holds Tryd.pinned (.plain (OpenSpec.upto identBackSpec)) identBackUptoCard

/-- THE SECOND FORM's CARD OF 'pilasterlaw01.IdentNumbers'. -/
def identNumbersUptoCard : Claim7 := { stood := { row := identNumbersUptoRow, standIns := [], harness := (true, "1e42c4e4db0ef21afa2b28852aa8828c6299fb0d0a50b41aca4c25c61e4f9d09"), looks := true }, kinds := [], alts := [], laidByText := true, laidKinds := [.data, .data, .data, .data, .sentinel, .sentinel, .listed, .data, .pinned], laidTests := true, laidLooks := .later }
def IdentNumbersUptoCardSaid : Prop := Claim7.holds Tryd.pinned (.plain (OpenSpec.upto identNumbersSpec)) identNumbersUptoCard
end Rows
end Go.Proofs.YtbjjimfdbbhjgaaDoor
