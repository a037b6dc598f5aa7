/- Binary operations: what they say of the model's; unary ones, conversions of numbers, interfaces. -/
import Derived.Test.YtcapeganlaibhaaGreatDoorAhOps3
set_option linter.unusedSimpArgs false
set_option linter.unusedVariables false
namespace Go.Ah

variable {P : Program} {j : J} {H : AHeap} {w : World}

theorem eqGuard_nilC {op : BinOp} {t : TypeId} {xo yo : Operand} (h : (isConstO xo || isConstO yo) = true) : eqGuard op t xo yo .nilIface .nilIface = pure () := by
  cases xo <;> cases yo <;> simp [isConstO] at h <;> (cases op <;> rfl)

theorem eqGuard_rel {op : BinOp} {t : TypeId} {xo yo : Operand} {x y : AV} {x' y' : Value} (hx : VRel j x x') (hy : VRel j y y') (h1 : x ≠ .bad) (h2 : y ≠ .bad) (h3 : ¬ (x = .nilIface ∧ y = .nilIface)) (h4 : ∀ l m, ¬ (x = .agg l ∧ y = .agg m)) :
    eqGuard op t xo yo x' y' = pure () := by
  have key : ∀ op', eqGuard op' t xo yo x' y' = pure () ∨ ((x' = .nilIface ∧ y' = .nilIface) ∨ (∃ l m, x' = .agg l ∧ y' = .agg m)) := by
    intro op'
    by_cases hn : x' = .nilIface ∧ y' = .nilIface
    · exact .inr (.inl hn)
    · by_cases ha : ∃ l m, x' = .agg l ∧ y' = .agg m
      · exact .inr (.inr ha)
      · refine .inl ?_
        cases op' <;> first | rfl | skip
        all_goals
          cases x' <;> cases y' <;> first | rfl | exact absurd ⟨rfl, rfl⟩ hn | exact absurd ⟨_, _, rfl, rfl⟩ ha
  rcases key op with h | h | ⟨l, m, e1, e2⟩
  · exact h
  · obtain ⟨rfl, rfl⟩ := h
    cases hx <;> cases hy <;> first | exact absurd ⟨rfl, rfl⟩ h3 | exact absurd rfl h1 | exact absurd rfl h2
  · subst e1; subst e2
    cases hx <;> cases hy <;> first | exact absurd ⟨rfl, rfl⟩ (h4 _ _) | exact absurd rfl h1 | exact absurd rfl h2

theorem abin_sound {op : BinOp} {t : TypeId} {xo yo : Operand} {x y z : AV} {x' y' : Value} (hx : VRel j x x') (hy : VRel j y y') (he : abin P op t xo yo x y = some z) :
    ∃ z', (do eqGuard op t xo yo x' y'; Go.binOp op t x' y' : Sem Value).run P w = .ok z' w ∧ VRel j z z' := by
  unfold abin at he
  split at he <;> (try (cases he; done))
  · -- numbers
    cases hx; cases hy
    obtain ⟨z', h1, h2⟩ := pureOf_sound (P := P) (w := w) (j := j) he
    exact ⟨z', by rw [eqGuard_at_int]; simpa using h1, h2⟩
  · -- texts
    cases hx; cases hy
    rename_i a b
    have hsz : ∀ l : List UInt8, (⟨l.toArray⟩ : ByteArray).size = l.length := fun l => by simp [ByteArray.size]
    have hq : ∀ (l m : List UInt8), (l == m) = beqBytes l m := fun l m => by rw [beqBytes_eq, Bool.eq_iff_iff]; simp
    split at he <;> (try (cases he; done))
    · split at he
      · rename_i hle
        have hle := Nat.le_of_ble_eq_true hle
        cases he
        refine ⟨.string (⟨a.toArray⟩ ++ ⟨b.toArray⟩), ?_, ?_⟩
        · rw [eqGuard_at_string]
          have hno : ¬ (9223372036854775807 : Int) < ((a.length + b.length : Nat) : Int) := by omega
          simp [Go.binOp, Op.stringOp, hsz]
          omega
        · have : ((⟨a.toArray⟩ : ByteArray) ++ ⟨b.toArray⟩) = ⟨(a ++ b).toArray⟩ := by
            apply ByteArray.ext; simp
          rw [this]; exact .str _
      · cases he
    · cases he; exact ⟨_, by rw [eqGuard_at_string]; simp only [pure_bind, Go.binOp, Op.stringOp, ByteArray.toList_mk, Sem.run_pure, hq, bytesLt_eq], .bool _⟩
    · cases he; exact ⟨_, by rw [eqGuard_at_string]; simp only [pure_bind, Go.binOp, Op.stringOp, ByteArray.toList_mk, Sem.run_pure, hq, bytesLt_eq], .bool _⟩
    · cases he; exact ⟨_, by rw [eqGuard_at_string]; simp only [pure_bind, Go.binOp, Op.stringOp, ByteArray.toList_mk, Sem.run_pure, hq, bytesLt_eq], .bool _⟩
    · cases he; exact ⟨_, by rw [eqGuard_at_string]; simp only [pure_bind, Go.binOp, Op.stringOp, ByteArray.toList_mk, Sem.run_pure, hq, bytesLt_eq], .bool _⟩
    · cases he; exact ⟨_, by rw [eqGuard_at_string]; simp only [pure_bind, Go.binOp, Op.stringOp, ByteArray.toList_mk, Sem.run_pure, hq, bytesLt_eq], .bool _⟩
    · cases he; exact ⟨_, by rw [eqGuard_at_string]; simp only [pure_bind, Go.binOp, Op.stringOp, ByteArray.toList_mk, Sem.run_pure, hq, bytesLt_eq], .bool _⟩
  · split at he
    · rename_i hc
      split at he <;> (try (cases he; done))
      · split at he
        · rename_i hq
          cases he
          have := (binOp_eql_other (w := w) hx hy hq (by simp) (by simp)).1
          cases hx; cases hy
          exact ⟨_, by rw [eqGuard_nilC hc, pure_bind]; exact this, .bool _⟩
        · cases he
      · split at he
        · rename_i hq
          cases he
          have := (binOp_eql_other (w := w) hx hy hq (by simp) (by simp)).2
          cases hx; cases hy
          exact ⟨_, by rw [eqGuard_nilC hc, pure_bind]; exact this, .bool _⟩
        · cases he
    · cases he
  · split at he
    · rename_i hc
      split at he <;> (try (cases he; done))
      · split at he
        · rename_i hq
          cases he
          have := (binOp_eql_other (w := w) hx hy hq (by simp) (by simp)).1
          cases hx; cases hy
          exact ⟨_, by rw [Sem.run_bind, run_eqGuard_agg _ _ _ _ _ _ _ hc, Result.andThen_ok]; exact this, .bool _⟩
        · cases he
      · split at he
        · rename_i hq
          cases he
          have := (binOp_eql_other (w := w) hx hy hq (by simp) (by simp)).2
          cases hx; cases hy
          exact ⟨_, by rw [Sem.run_bind, run_eqGuard_agg _ _ _ _ _ _ _ hc, Result.andThen_ok]; exact this, .bool _⟩
        · cases he
    · cases he
  · rename_i n1 n2 n3 n4 n5 n6 n7 n8 n9 n10
    have g : eqGuard op t xo yo x' y' = pure () := eqGuard_rel hx hy (by intro e; subst e; simp_all) (by intro e; subst e; simp_all) (by rintro ⟨e, e'⟩; subst e e'; simp_all) (by rintro l m ⟨e, e'⟩; subst e e'; simp_all)
    split at he <;> (try (cases he; done))
    · split at he
      · rename_i hq
        cases he
        have := (binOp_eql_other (w := w) hx hy hq (by intro k n e; subst e; simp_all) (by intro s e; subst e; simp_all)).1
        exact ⟨_, by rw [g, pure_bind]; exact this, .bool _⟩
      · cases he
    · split at he
      · rename_i hq
        cases he
        have := (binOp_eql_other (w := w) hx hy hq (by intro k n e; subst e; simp_all) (by intro s e; subst e; simp_all)).2
        exact ⟨_, by rw [g, pure_bind]; exact this, .bool _⟩
      · cases he

end Go.Ah
