/-
  DERIVED. GIVEN WITH THE SEED: THE CARDS: each row of YtcapeganlaibhaaGreatDoorRows.lean that lists a variable, with what it lists TIED to the program's text (the seventh form; the later family's looks); each row that meets fmt, with fmt's text TOLD by the authors' own Lean function (tested against real Go, not proved from fmt's source: count such statements apart). THE CARD IS WHAT COUNTS. Prove the row's statement (the work); the ties are given (YtcapeganlaibhaaGreatDoorTie.lean); close each card by the builder's one call (the guide's Derived/Test/ToyasCard.lean, 'card_holds'). Laid BY PROGRAM, IN A SANDBOX (cutbox-door.mjs). By AI agents, Wed Nov 11 2026. No macro, syntax, notation, axiom, sorry.
-/
import Derived.Test.YtcapeganlaibhaaGreatDoorRows
import GoSem.ClaimSeven
namespace Go.Proofs.YtcapeganlaibhaaGreatDoor
namespace Rows

/-- THE TIED CARD OF 'cinnabarlaw35.VerifyJoins'. -/
def verifyJoinsCard : Claim7 := { stood := { row := verifyJoinsRow, standIns := [], harness := (true, "3de5d03b52388c2d60d33870f5e6561dd22a65902c3e41803cc0f1c17755041c"), looks := true }, kinds := [], alts := [], laidByText := true, laidKinds := [.data, .data, .data, .sentinel, .sentinel, .listed, .data], laidTests := true, laidLooks := .later }
def VerifyJoinsCardSaid : Prop := Claim7.holds Tryz.pinned (.plain (OpenSpec.ofChange verifyJoinsSpec)) verifyJoinsCard

/-- THE SECOND FORM's CARD OF 'cinnabarlaw35.VerifyJoins'. -/
def verifyJoinsUptoCard : Claim7 := { stood := { row := verifyJoinsUptoRow, standIns := [], harness := (true, "3de5d03b52388c2d60d33870f5e6561dd22a65902c3e41803cc0f1c17755041c"), looks := true }, kinds := [], alts := [], laidByText := true, laidKinds := [.data, .data, .data, .sentinel, .sentinel, .listed, .data], laidTests := true, laidLooks := .later }
def VerifyJoinsUptoCardSaid : Prop := Claim7.holds Tryz.pinned (.plain (OpenSpec.upto verifyJoinsSpec)) verifyJoinsUptoCard
end Rows
end Go.Proofs.YtcapeganlaibhaaGreatDoor
