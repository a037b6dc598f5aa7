/- Closed facts of the row: its cells. -/
import Derived.Test.YtcapeganlaibhaaGreatDoorCards
import Derived.JoinedCond
import Derived.KernelRfl
import Derived.Test.YtcapeganlaibhaaGreatDoorVjF0
import Derived.Test.YtcapeganlaibhaaGreatDoorVjF1
import Derived.Test.YtcapeganlaibhaaGreatDoorVjF2
import Derived.Test.YtcapeganlaibhaaGreatDoorVjF3
namespace Go.Proofs.YtcapeganlaibhaaGreatDoor.law
theorem closed : joinedFacts Tryz.pinned.checked.prog 3 Tryz.f3 (OpenSpec.ofChange Rows.verifyJoinsSpec).bare Rows.verifyJoinsRow = true := by
  unfold joinedFacts
  rw [fact_inPlace, fact_unfollowed, fact_recurses, fact_named]
  kernel_rfl
theorem inst : Tryz.f3.isInstance Tryz.pinned.checked.prog Rows.verifyJoinsRow.origin Rows.verifyJoinsRow.targs := of_decide_eq_true (by kernel_rfl)
theorem wrap : Tryz.f3.isWrapper Tryz.pinned.checked.prog Rows.verifyJoinsRow.wrapper Rows.verifyJoinsRow.mainSum := by unfold Func.isWrapper; first | (rw [if_pos (by decide +kernel)]; kernel_rfl) | (rw [if_neg (by decide +kernel)]; exact ⟨rfl, rfl⟩)
theorem named3 : Tryz.pinned.checked.prog.funcNamed Rows.verifyJoinsRow.func = some 3 := by kernel_rfl
end Go.Proofs.YtcapeganlaibhaaGreatDoor.law
