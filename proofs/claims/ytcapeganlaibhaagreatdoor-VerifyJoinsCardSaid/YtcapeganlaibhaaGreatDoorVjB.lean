/- A part of the proof of a law of this seat: lemmas on single functions of the program, in any heap. -/
import Derived.Test.YtcapeganlaibhaaGreatDoorAhSpec
import Derived.Test.YtcapeganlaibhaaGreatDoorProg
import Derived.KernelRfl
import Derived.IntWalk
set_option linter.unusedVariables false
set_option linter.unusedSimpArgs false
namespace Go.Ah
open Go.Proofs
abbrev I (a : Int) : AV := .int .i64 a
variable (H : AHeap)
theorem T24_alloc : aalloc Tryz.prog H 24 = some (.ptr (some (H.next, 0)), H.alloc (.row true [] [.slice none 0 0 true, I 0])) := by kernel_rfl
theorem T24_f0 (b o : Nat) : afieldAddr Tryz.prog 24 (.ptr (some (b, o))) 0 = some (.ptr (some (b, o))) := by kernel_rfl
theorem T24_f1 (b o : Nat) : afieldAddr Tryz.prog 24 (.ptr (some (b, o))) 1 = some (.ptr (some (b, o + 1))) := by kernel_rfl
theorem T24_agg : aggT Tryz.prog 24 = some true := by kernel_rfl
theorem T24_sz : szT Tryz.prog 24 = some 2 := by kernel_rfl
theorem T22_agg : aggT Tryz.prog 22 = some false := by kernel_rfl
theorem T22_sz : szT Tryz.prog 22 = some 1 := by kernel_rfl
theorem T3_agg : aggT Tryz.prog 3 = some false := by kernel_rfl
theorem T3_sz : szT Tryz.prog 3 = some 1 := by kernel_rfl
theorem T22_len (a : Option (Nat × Nat)) (n sz : Nat) (f : Bool) : alen Tryz.prog H 22 (.slice a n sz f) = some (I n) := by kernel_rfl
theorem B_neq (t : TypeId) (x y : Operand) (a b : Int) : abin Tryz.prog .neq t x y (I a) (I b) = some (.bool (a != b)) := by kernel_rfl
theorem B_eql (t : TypeId) (x y : Operand) (a b : Int) : abin Tryz.prog .eql t x y (I a) (I b) = some (.bool (a == b)) := by kernel_rfl
theorem B_lss (t : TypeId) (x y : Operand) (a b : Int) : abin Tryz.prog .lss t x y (I a) (I b) = some (.bool (decide (a < b))) := by kernel_rfl
theorem B_gtr (t : TypeId) (x y : Operand) (a b : Int) : abin Tryz.prog .gtr t x y (I a) (I b) = some (.bool (decide (b < a))) := by kernel_rfl
theorem i64_in' (n : Int) (h : -9223372036854775808 ≤ n ∧ n ≤ 9223372036854775807) : IntKind.i64.wrap n = n := by rw [IntKind.wrap_i64]; omega
theorem B_add0 (t : TypeId) (x y : Operand) (a b : Int) : abin Tryz.prog .add t x y (I a) (I b) = some (I (IntKind.i64.wrap (a + b))) := by kernel_rfl
theorem B_succ (t : TypeId) (x y : Operand) (i : Nat) (h : i < 1000000) : abin Tryz.prog .add t x y (I (i : Int)) (I 1) = some (I ((i + 1 : Nat) : Int)) := by
  rw [B_add0, i64_in' _ (by omega)]
  congr 1
theorem T24_build0 : abuild Tryz.prog 24 [] = some (.agg [.slice none 0 0 true, I 0]) := by kernel_rfl
theorem T24_build (p : Option (Nat × Nat)) (n sz : Nat) (f : Bool) (b : Int) : abuild Tryz.prog 24 [(0, .slice p n sz f), (1, I b)] = some (.agg [.slice p n sz f, I b]) := by kernel_rfl
theorem T22_index (b o n i : Nat) (f : Bool) (h : Nat.blt i n = true) : aindexAddr Tryz.prog 22 (.slice (some (b, o)) n 1 f) (I (i : Int)) = some (.ptr (some (b, o + i))) := by
  have h1 : aindexAddr Tryz.prog 22 (.slice (some (b, o)) n 1 f) (I (i : Int)) = (match Nat.beq 1 1 && Nat.blt i n with
    | true => some (AV.ptr (some (b, o + i * 1)))
    | false => none) := by kernel_rfl
  rw [h1, h]
  simp
theorem E6 : canEnter Tryz.prog 6 = true := by kernel_rfl
theorem E10 : canEnter Tryz.prog 10 = true := by kernel_rfl
theorem E17 : canEnter Tryz.prog 17 = true := by kernel_rfl
theorem E43 : canEnter Tryz.prog 43 = true := by kernel_rfl
theorem E5 : canEnter Tryz.prog 5 = true := by kernel_rfl
theorem E4 : canEnter Tryz.prog 4 = true := by kernel_rfl
theorem R5 (T : Trie AV) : aresults Tryz.prog Tryz.f5 T H = (match ares Tryz.prog T H [.cell 4 24, .tmp 5] with
  | some [v] => some v
  | some vs => some (.tuple vs)
  | none => none) := by kernel_rfl
end Go.Ah
namespace Go.Ah
open Go.Proofs
variable (H : AHeap)
theorem T22_isnil (x : Operand) (p : Nat × Nat) (n : Nat) (f : Bool) : abin Tryz.prog .eql 22 x (.const (.slice none 0 0)) (.slice (some p) n 1 f) (.slice none 0 0 true) = some (.bool false) := by kernel_rfl
theorem T22_mk0 : abuildSlice Tryz.prog H 22 0 [] = some (.slice (some (H.next, 0)) 0 1 true, H.alloc (.row true [] [])) := by kernel_rfl
theorem T22_append0 (b1 b o : Nat) (f : Bool) : aappend Tryz.prog H 22 22 (.slice (some (b1, 0)) 0 1 true) (.slice (some (b, o)) 0 1 f) = some (.slice (some (b1, 0)) 0 1 true, H) := by kernel_rfl
theorem U22 : Tryz.prog.underlying 22 = some (.slice 3) := by kernel_rfl
theorem I3 : Tryz.prog.info? 3 = some Tryz.t3 := by kernel_rfl
theorem Z3 : ∃ z, Tryz.t3.zero = some z ∧ zeroFits z 1 = true := ⟨_, rfl, rfl⟩
theorem allCells_ints : ∀ (l : List Int), allCells (ints l) = true
  | [] => rfl
  | x :: l => allCells_ints l
theorem T22_append {H : AHeap} {b1 b o : Nat} {f w : Bool} {olds : List Nat} {cells : List AV} {x : Int} {xs : List Int} (hb : H.get b = some (.row w olds cells)) (h4 : (cells.drop o).take (xs.length + 1) = ints (x :: xs)) (hl : xs.length ≤ 1000) :
    aappend Tryz.prog H 22 22 (.slice (some (b1, 0)) 0 1 true) (.slice (some (b, o)) (xs.length + 1) 1 f) = some (.slice (some (H.next, 0)) (xs.length + 1) 1 false, H.alloc (.row true [] (ints (x :: xs)))) := by
  obtain ⟨z, hz, hzf⟩ := Z3
  have hs : Tryz.t3.size = 1 := rfl
  have hby : Tryz.t3.bytes = 8 := rfl
  have hlen : Nat.beq (ints (x :: xs)).length (xs.length + 1) = true := by rw [ints_length]; exact Nat.beq_refl _
  have h1 : Nat.ble ((0 + (xs.length + 1) + (0 + (xs.length + 1)) / 4 + 192) * 8) 281474976710656 = true := Nat.ble_eq_true_of_le (by omega)
  have h2 : Nat.ble (0 + (xs.length + 1)) 9223372036854775807 = true := Nat.ble_eq_true_of_le (by omega)
  have h1' : Nat.ble ((xs.length + 1 + (xs.length + 1) / 4 + 192) * 8) 281474976710656 = true := Nat.ble_eq_true_of_le (by omega)
  have h2' : Nat.ble (xs.length + 1) 9223372036854775807 = true := Nat.ble_eq_true_of_le (by omega)
  have h3 : Nat.beq 1 1 = true := rfl
  simp only [aappend, asrc, U22, I3, hz, hs, hby, hzf, hb, h4, h3, Nat.mul_one, hlen, allCells_ints, Bool.and_self, h1, h2, h1', h2', Nat.zero_add, anew]
end Go.Ah
