/- A part of the proof of a law of this seat: lemmas on single functions of the program, in any heap. -/
import Derived.Test.YtcapeganlaibhaaGreatDoorVjH
import Derived.Test.YtcapeganlaibhaaGreatDoorVjA
set_option linter.unusedVariables false
set_option linter.unusedSimpArgs false
namespace Go.Ah
open Go.Proofs
attribute [local irreducible] evFun evCode evOps evDraw evStages evLeaves
theorem loop_once {P : Program} (hmix : P.follows .mixedOrders = true) {n : Nat} {c : Code} {K : Kont} {s : St} (h : evCode botP P (sem P) n c (kthen (fun s => (sem P).loop n c K s) K) s) : (sem P).loop n c K s :=
  A_round (evCode_sound hmix (sem_ok P) c _ _ h)
theorem T25_i0 (a b c d e f : AV) : aindex Tryz.prog 25 (.agg [a, b, c, d, e, f]) (I 0) = some (.agg [a, b]) := by kernel_rfl
theorem T25_i1 (a b c d e f : AV) : aindex Tryz.prog 25 (.agg [a, b, c, d, e, f]) (I 1) = some (.agg [c, d]) := by kernel_rfl
theorem T25_i2 (a b c d e f : AV) : aindex Tryz.prog 25 (.agg [a, b, c, d, e, f]) (I 2) = some (.agg [e, f]) := by kernel_rfl
theorem T25_a0 (b o : Nat) : aindexAddr Tryz.prog 25 (.ptr (some (b, o))) (I 0) = some (.ptr (some (b, o))) := by kernel_rfl
theorem T25_a1 (b o : Nat) : aindexAddr Tryz.prog 25 (.ptr (some (b, o))) (I 1) = some (.ptr (some (b, o + 2))) := by kernel_rfl
theorem T25_a2 (b o : Nat) : aindexAddr Tryz.prog 25 (.ptr (some (b, o))) (I 2) = some (.ptr (some (b, o + 4))) := by kernel_rfl
theorem T25_agg : aggT Tryz.prog 25 = some true := by kernel_rfl
theorem T25_sz : szT Tryz.prog 25 = some 6 := by kernel_rfl
theorem B_a0 (x y : Operand) : abin Tryz.prog .add 3 x y (I 0) (I 1) = some (I 1) := by kernel_rfl
theorem B_a1 (x y : Operand) : abin Tryz.prog .add 3 x y (I 1) (I 1) = some (I 2) := by kernel_rfl
theorem B_a2 (x y : Operand) : abin Tryz.prog .add 3 x y (I 2) (I 1) = some (I 3) := by kernel_rfl
theorem X0 (a b : AV) : aextract (.tuple [a, b]) 0 = some a := by kernel_rfl
theorem X1 (a b : AV) : aextract (.tuple [a, b]) 1 = some b := by kernel_rfl
theorem Un (b : Bool) : aun .not (.bool b) = some (.bool (!b)) := by kernel_rfl
end Go.Ah
