/- A closed fact of the row: what the call reaches. -/
import Derived.Test.YtcapeganlaibhaaGreatDoorCards
import Derived.JoinedCond
import Derived.KernelRfl
namespace Go.Proofs.YtcapeganlaibhaaGreatDoor.law
theorem fact_unfollowed : (Rows.verifyJoinsRow.unfollowed == Tryz.pinned.checked.prog.unfollowed 3) = true := by kernel_rfl
end Go.Proofs.YtcapeganlaibhaaGreatDoor.law
