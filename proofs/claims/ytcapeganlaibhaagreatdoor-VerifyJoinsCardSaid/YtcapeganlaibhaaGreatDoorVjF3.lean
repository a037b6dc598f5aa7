/- A closed fact of the row: what the call reaches. -/
import Derived.Test.YtcapeganlaibhaaGreatDoorCards
import Derived.JoinedCond
import Derived.KernelRfl
namespace Go.Proofs.YtcapeganlaibhaaGreatDoor.law
theorem fact_named : (Rows.verifyJoinsRow.named == Tryz.pinned.checked.prog.varsNamed 3) = true := by kernel_rfl
end Go.Proofs.YtcapeganlaibhaaGreatDoor.law
