/- The law VerifyJoins returns true for any three states, and leaves them as they were: the tied card. -/
import Derived.Test.YtcapeganlaibhaaGreatDoorVjM
import Derived.Test.YtcapeganlaibhaaGreatDoorVjN1
import Derived.Test.YtcapeganlaibhaaGreatDoorVjF4
import Derived.Test.YtcapeganlaibhaaGreatDoorVjF5
import Derived.Test.YtcapeganlaibhaaGreatDoorVjF6
set_option linter.unusedVariables false
set_option linter.unusedSimpArgs false
namespace Go.Proofs.YtcapeganlaibhaaGreatDoor.law
open Go.ChangeShapes Go.WideShapes Go.ChangeAt Go.RowKit Go.Ah
theorem said : Rows.VerifyJoinsSaid :=
  OpenClaim.holds_of_cond 3 Tryz.f3 rfl rfl rfl rfl rfl rfl rfl ⟨rfl, rfl, rfl, rfl, rfl⟩ rfl rfl rfl rfl rfl named3 Tryz.func3 closed inst wrap
    (fun os started H enc _ F => by rw [OpenClaim.pre_eq_preRow]; exact lifted os started H enc F)

theorem card : Rows.VerifyJoinsCardSaid :=
  Claim7.holds_tied_plain_at .later [] _ _ _ _ said (fun _ h => by cases h) wfText (fun _ h => by cases h) verifyJoins_row_tie rfl ⟨rfl, rfl⟩ mainIs' rfl plain goesBy'
end Go.Proofs.YtcapeganlaibhaaGreatDoor.law
