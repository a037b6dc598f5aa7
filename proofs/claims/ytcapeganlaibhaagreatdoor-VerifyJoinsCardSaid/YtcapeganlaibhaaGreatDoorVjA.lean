/- A part of the proof of a law of this seat: lemmas on single functions of the program, in any heap. -/
import Derived.Test.YtcapeganlaibhaaGreatDoorAhSpec
import Derived.Test.YtcapeganlaibhaaGreatDoorProg
import Derived.KernelRfl
namespace Go.Ah
open Go.Proofs
attribute [local irreducible] evFun evCode evOps evDraw evStages evLeaves
def isTrue : AEnd → AHeap → Prop
  | .ret (.bool true), _ => True
  | _, _ => False
theorem awake4_run : evFun botP Tryz.prog (recN botP Tryz.prog 1000) 4 [] ⟨.leaf, 9, 9⟩ isTrue = True := by kernel_rfl
theorem awake4 {H : AHeap} {Q : AEnd → AHeap → Prop} (hq : Q (.ret (.bool true)) H) : ACalls Tryz.prog 4 [] H Q := by
  refine ACalls.closed (gn := 9) (b := true) ?_ hq
  refine ACalls.mono ?_ (evFun_sound rfl (recN_ok rfl 1000) (of_eq_true awake4_run))
  intro e H h
  unfold isTrue at h
  split at h
  · rfl
  · exact h.elim
end Go.Ah
