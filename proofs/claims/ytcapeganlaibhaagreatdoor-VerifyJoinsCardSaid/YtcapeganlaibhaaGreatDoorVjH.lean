/- A part of the proof of a law of this seat: lemmas on single functions of the program, in any heap. -/
import Derived.Test.YtcapeganlaibhaaGreatDoorVjG
set_option linter.unusedVariables false
set_option linter.unusedSimpArgs false
namespace Go.Ah
open Go.Proofs
/-- the join of two states: slots, open collections, error -/
def jr (xs : List Int) (oa : Int) (ys : List Int) (ob : Int) : List Int × Int × Int :=
  if xs.length = ys.length then if oa = ob then (joinL xs ys, oa, 0) else ([], 0, 13) else ([], 0, 4)
theorem Join5' {H : AHeap} {va vb : AV} {xs ys : List Int} {oa ob : Int} (ha : Sl H va xs) (hb : Sl H vb ys) (hl : xs.length ≤ 1000) {Q : AEnd → AHeap → Prop}
    (h : ∀ sl H', HLe H H' → NewSl H H' sl (jr xs oa ys ob).1 → Q (.ret (.tuple [.agg [sl, I (jr xs oa ys ob).2.1], I (jr xs oa ys ob).2.2])) H') : ACalls Tryz.prog 5 [.agg [va, I oa], .agg [vb, I ob]] H Q := by
  refine Join5 ha hb hl (fun hne sl H' h1 h2 => ?_) (fun hne ho sl H' h1 h2 => ?_) (fun hne ho sl H' h1 h2 => ?_)
  · have := h sl H' h1; simp only [jr, if_neg hne] at this; exact this h2
  · have := h sl H' h1; simp only [jr, if_pos hne, if_neg ho] at this; exact this h2
  · have := h sl H' h1; simp only [jr, if_pos hne, if_pos ho] at this; exact this h2
theorem Join5q {H : AHeap} {va vb : AV} {xs ys zs : List Int} {oa ob o e : Int} (hR : jr xs oa ys ob = (zs, o, e)) (ha : Sl H va xs) (hb : Sl H vb ys) (hl : xs.length ≤ 1000) {Q : AEnd → AHeap → Prop}
    (h : ∀ sl H', HLe H H' → NewSl H H' sl zs → Q (.ret (.tuple [.agg [sl, I o], I e])) H') : ACalls Tryz.prog 5 [.agg [va, I oa], .agg [vb, I ob]] H Q :=
  Join5' ha hb hl (by rw [hR]; exact h)
theorem jn_comm (x y : Int) : jn x y = jn y x := by unfold jn; split <;> split <;> simp_all
theorem jn_self (x : Int) : jn x x = x := by simp [jn]
theorem jn_assoc (x y z : Int) : jn (jn x y) z = jn x (jn y z) := by
  unfold jn; repeat' split
  all_goals (first | rfl | simp_all)
theorem joinL_get (xs ys : List Int) (k : Nat) : (joinL xs ys)[k]? = match xs[k]?, ys[k]? with | some x, some y => some (jn x y) | _, _ => none := by
  simp only [joinL, List.getElem?_zipWith]
  cases xs[k]? <;> cases ys[k]? <;> rfl
theorem joinL_length (xs ys : List Int) (h : xs.length = ys.length) : (joinL xs ys).length = xs.length := by simp [joinL]; omega
theorem joinL_comm (xs ys : List Int) : joinL xs ys = joinL ys xs := by
  apply List.ext_getElem?; intro k
  rw [joinL_get, joinL_get]
  cases xs[k]? <;> cases ys[k]? <;> simp [jn_comm]
theorem joinL_self (xs : List Int) : joinL xs xs = xs := by
  apply List.ext_getElem?; intro k
  rw [joinL_get]
  cases xs[k]? <;> simp [jn_self]
theorem joinL_assoc (xs ys zs : List Int) : joinL (joinL xs ys) zs = joinL xs (joinL ys zs) := by
  apply List.ext_getElem?; intro k
  rw [joinL_get, joinL_get, joinL_get, joinL_get]
  cases xs[k]? <;> cases ys[k]? <;> cases zs[k]? <;> simp [jn_assoc]
theorem jr_comm (xs ys : List Int) (oa ob : Int) : jr xs oa ys ob = jr ys ob xs oa := by
  unfold jr
  by_cases h : xs.length = ys.length
  · rw [if_pos h, if_pos h.symm]
    by_cases ho : oa = ob
    · rw [if_pos ho, if_pos ho.symm, joinL_comm, ho]
    · rw [if_neg ho, if_neg (Ne.symm ho)]
  · rw [if_neg h, if_neg (Ne.symm h)]
theorem jr_self (xs : List Int) (oa : Int) : jr xs oa xs oa = (xs, oa, 0) := by simp [jr, joinL_self]
theorem jr_len {xs ys zs : List Int} {oa ob o e : Int} (h : jr xs oa ys ob = (zs, o, e)) : zs.length ≤ xs.length := by
  unfold jr at h
  split at h
  · split at h
    · cases h; rw [joinL_length _ _ (by assumption)]; exact Nat.le_refl _
    · cases h; simp
  · cases h; simp
end Go.Ah
