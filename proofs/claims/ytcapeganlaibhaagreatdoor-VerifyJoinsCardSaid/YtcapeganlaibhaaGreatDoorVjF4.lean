/- Closed facts of the card: its words. -/
import Derived.Test.YtcapeganlaibhaaGreatDoorCards
import Derived.SevenTiedAt
import Derived.KernelRfl
namespace Go.Proofs.YtcapeganlaibhaaGreatDoor.law
theorem wfText : Rows.verifyJoinsRow.wfByText (OpenSpec.ofChange Rows.verifyJoinsSpec) = true := by kernel_rfl
theorem mainIs' : Tryz.pinned.checked.prog.mainIs = some (Rows.verifyJoinsCard.stood.harness.1, Rows.verifyJoinsCard.stood.harness.2.toList) := by kernel_rfl
end Go.Proofs.YtcapeganlaibhaaGreatDoor.law
