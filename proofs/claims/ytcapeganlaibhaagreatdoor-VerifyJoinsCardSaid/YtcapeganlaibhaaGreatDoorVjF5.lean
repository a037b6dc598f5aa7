/- Closed facts of the card: what it goes by. -/
import Derived.Test.YtcapeganlaibhaaGreatDoorCards
import Derived.SevenTiedAt
import Derived.KernelRfl
set_option linter.unusedVariables false
namespace Go.Proofs.YtcapeganlaibhaaGreatDoor.law
theorem goesBy' : false = Rows.verifyJoinsRow.goesBy Tryz.pinned.checked.prog := by kernel_rfl
end Go.Proofs.YtcapeganlaibhaaGreatDoor.law
