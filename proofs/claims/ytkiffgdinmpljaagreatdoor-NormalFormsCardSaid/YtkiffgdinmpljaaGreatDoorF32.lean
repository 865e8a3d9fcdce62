/- normalize at every depth. -/
import Derived.Test.YtkiffgdinmpljaaGreatDoorF31
set_option linter.unusedVariables false
set_option linter.unusedSimpArgs false
namespace Go.Proofs.YtkiffgdinmpljaaGreatDoor
open Go Go.RowKit
theorem norm_all (kb : Nat) : ∀ (F : Nat) (x : ConD), NormAll2 kb F x
 | 0, x => by
   intro P w left _ _ _ _ _ _ _ _ hfu _ _
   exfalso
   have : 1<=dCQ (pC x) := by cases x; rw [pMQ, depthC_mk]; omega
   omega
 | F + 1, x => norm_step kb F (fun y => norm_all kb F y) x
def deepF : Nat := 4010401
def tameN (c : Cn) : Option (Cn × Nat) := nrmN deepF c 10000
end Go.Proofs.YtkiffgdinmpljaaGreatDoor
