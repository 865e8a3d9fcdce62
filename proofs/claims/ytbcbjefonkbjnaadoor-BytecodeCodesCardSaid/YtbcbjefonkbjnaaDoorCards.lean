/-
  DERIVED. GIVEN WITH THE SEED: THE CARDS: each row of YtbcbjefonkbjnaaDoorRows.lean that lists a variable, with what it lists TIED to the program's text (the seventh form; the later family's looks); each row that meets fmt, with fmt's text TOLD by the authors' own Lean function (tested against real Go, not proved from fmt's source: count such statements apart). THE CARD IS WHAT COUNTS. Prove the row's statement (the work); the ties are given (YtbcbjefonkbjnaaDoorTie.lean); close each card by the builder's one call (the guide's Derived/Test/ToyasCard.lean, 'card_holds'). Laid BY PROGRAM, IN A SANDBOX (cutbox-door.mjs). By AI agents, Wed Nov 11 2026. No macro, syntax, notation, axiom, sorry.
-/
import Derived.Test.YtbcbjefonkbjnaaDoorRows
import GoSem.ClaimSeven
namespace Go.Proofs.YtbcbjefonkbjnaaDoor
namespace Rows

/-- THE TIED CARD OF 'pilasterlaw46.BytecodeFlow'. -/
def bytecodeFlowCard : Claim7 := { stood := { row := bytecodeFlowRow, standIns := [], harness := (true, "cd4dc36c9608a36162975ba5a88cfc4ffbad8bd1e048aeff90760a591776c635"), looks := false }, kinds := [], alts := [], laidByText := true, laidKinds := [.data, .data, .data], laidTests := true, laidLooks := .later }
def BytecodeFlowCardSaid : Prop := Claim7.holds Tryd.pinned (.plain (OpenSpec.ofChange bytecodeFlowSpec)) bytecodeFlowCard

/-- THE TIED CARD OF 'pilasterlaw46.BytecodeInstrs'. -/
def bytecodeInstrsCard : Claim7 := { stood := { row := bytecodeInstrsRow, standIns := [], harness := (true, "cd4dc36c9608a36162975ba5a88cfc4ffbad8bd1e048aeff90760a591776c635"), looks := false }, kinds := [], alts := [], laidByText := true, laidKinds := [.data, .data, .data], laidTests := true, laidLooks := .later }
def BytecodeInstrsCardSaid : Prop := Claim7.holds Tryd.pinned (.plain (OpenSpec.ofChange bytecodeInstrsSpec)) bytecodeInstrsCard

/-- THE TIED CARD OF 'pilasterlaw46.BytecodeCodes'. -/
def bytecodeCodesCard : Claim7 := { stood := { row := bytecodeCodesRow, standIns := [], harness := (true, "cd4dc36c9608a36162975ba5a88cfc4ffbad8bd1e048aeff90760a591776c635"), looks := false }, kinds := [], alts := [], laidByText := true, laidKinds := [.data, .data, .data], laidTests := true, laidLooks := .later }
def BytecodeCodesCardSaid : Prop := Claim7.holds Tryd.pinned (.plain (OpenSpec.ofChange bytecodeCodesSpec)) bytecodeCodesCard

/-- THE TIED CARD OF 'pilasterlaw46.BytecodeDamage'. -/
def bytecodeDamageCard : Claim7 := { stood := { row := bytecodeDamageRow, standIns := [], harness := (true, "cd4dc36c9608a36162975ba5a88cfc4ffbad8bd1e048aeff90760a591776c635"), looks := false }, kinds := [], alts := [], laidByText := true, laidKinds := [.data, .data, .data], laidTests := true, laidLooks := .later }
def BytecodeDamageCardSaid : Prop := Claim7.holds Tryd.pinned (.plain (OpenSpec.ofChange bytecodeDamageSpec)) bytecodeDamageCard

/-- THE SECOND FORM's CARD OF 'pilasterlaw46.BytecodeFlow'. -/
def bytecodeFlowUptoCard : Claim7 := { stood := { row := bytecodeFlowUptoRow, standIns := [], harness := (true, "cd4dc36c9608a36162975ba5a88cfc4ffbad8bd1e048aeff90760a591776c635"), looks := false }, kinds := [], alts := [], laidByText := true, laidKinds := [.data, .data, .data], laidTests := true, laidLooks := .later }
def BytecodeFlowUptoCardSaid : Prop := Claim7.holds Tryd.pinned (.plain (OpenSpec.upto bytecodeFlowSpec)) bytecodeFlowUptoCard

/-- THE SECOND FORM's CARD OF 'pilasterlaw46.BytecodeInstrs'. -/
def bytecodeInstrsUptoCard : Claim7 := { stood := { row := bytecodeInstrsUptoRow, standIns := [], harness := (true, "cd4dc36c9608a36162975ba5a88cfc4ffbad8bd1e048aeff90760a591776c635"), looks := false }, kinds := [], alts := [], laidByText := true, laidKinds := [.data, .data, .data], laidTests := true, laidLooks := .later }
def BytecodeInstrsUptoCardSaid : Prop := Claim7.holds Tryd.pinned (.plain (OpenSpec.upto bytecodeInstrsSpec)) bytecodeInstrsUptoCard

/-- THE SECOND FORM's CARD OF 'pilasterlaw46.BytecodeCodes'. -/
def bytecodeCodesUptoCard : Claim7 := { stood := { row := bytecodeCodesUptoRow, standIns := [], harness := (true, "cd4dc36c9608a36162975ba5a88cfc4ffbad8bd1e048aeff90760a591776c635"), looks := false }, kinds := [], alts := [], laidByText := true, laidKinds := [.data, .data, .data], laidTests := true, laidLooks := .later }
def BytecodeCodesUptoCardSaid : Prop := Claim7.holds Tryd.pinned (.plain (OpenSpec.upto bytecodeCodesSpec)) bytecodeCodesUptoCard

/-- THE SECOND FORM's CARD OF 'pilasterlaw46.BytecodeDamage'. -/
def bytecodeDamageUptoCard : Claim7 := { stood := { row := bytecodeDamageUptoRow, standIns := [], harness := (true, "cd4dc36c9608a36162975ba5a88cfc4ffbad8bd1e048aeff90760a591776c635"), looks := false }, kinds := [], alts := [], laidByText := true, laidKinds := [.data, .data, .data], laidTests := true, laidLooks := .later }
def BytecodeDamageUptoCardSaid : Prop := Claim7.holds Tryd.pinned (.plain (OpenSpec.upto bytecodeDamageSpec)) bytecodeDamageUptoCard
end Rows
end Go.Proofs.YtbcbjefonkbjnaaDoor
