/- An operation looks at its operands alone; what is made at a number of its own. -/
import Derived.Test.YtcapeganlaibhaaGreatDoorAhSched
set_option linter.unusedVariables false
set_option linter.unusedSimpArgs false
namespace Go.Ah

variable {P : Program} {j : J} {H : AHeap} {w : World}

theorem aevals_congr {T T' : Trie AV} : ∀ (l : List Operand), (∀ x ∈ l, aeval H T x = aeval H T' x) → aevals H T l = aevals H T' l
  | [], _ => rfl
  | x :: l, h => by simp only [aevals]; rw [h x (by simp), aevals_congr l fun y hy => h y (by simp [hy])]
theorem aparts_congr {T T' : Trie AV} : ∀ (l : List (Nat × Operand)), (∀ x ∈ l, aeval H T x.2 = aeval H T' x.2) → aparts H T l = aparts H T' l
  | [], _ => rfl
  | (i, x) :: l, h => by simp only [aparts]; rw [h (i, x) (by simp), aparts_congr l fun y hy => h y (by simp [hy])]
theorem aopt_congr {T T' : Trie AV} (o : Option Operand) (h : ∀ x, o = some x → aeval H T x = aeval H T' x) : aopt H T o = aopt H T' o := by
  cases o with
  | none => rfl
  | some x => simp only [aopt]; rw [h x rfl]

theorem aexec_congr {T T' : Trie AV} {op : Op} (h : ∀ x ∈ op.operands.toList, aeval H T x = aeval H T' x) : aexec P H T op = aexec P H T' op := by
  cases op <;> simp only [aexec] <;> simp only [Op.operands] at h <;> (try rfl)
  case call c =>
    have ha : aevals H T c.args.toList = aevals H T' c.args.toList := aevals_congr _ fun x hx => h x (by simp [Call.operands]; exact .inr (by simpa using hx))
    unfold acall
    split
    · rw [ha]
    · rename_i f hc
      rw [ha, h f (by simp [Call.operands, hc])]
    · rename_i r name hc
      rw [ha, h r (by simp [Call.operands, hc])]
  case defer c =>
    have ha : aevals H T c.args.toList = aevals H T' c.args.toList := aevals_congr _ fun x hx => h x (by simp [Call.operands]; exact .inr (by simpa using hx))
    unfold adefer
    split
    · rename_i f hc
      rw [ha, h f (by simp [Call.operands, hc])]
    · rfl
  case build t parts => rw [aparts_congr _ fun x hx => h x.2 (by simp; exact ⟨x.1, by simpa using hx⟩)]
  case buildSlice t len parts => rw [aparts_congr _ fun x hx => h x.2 (by simp; exact ⟨x.1, by simpa using hx⟩)]
  case makeFunc fn first cap =>
    rw [aevals_congr first.toList fun x hx => h x (by simp; exact .inl (by simpa using hx)), aevals_congr cap.toList fun x hx => h x (by simp; exact .inr (by simpa using hx))]
  case makeMap t r => rw [aopt_congr r fun x hx => h x (by simp [hx])]
  case slice t x lo hi mx =>
    rw [h x (by simp), aopt_congr lo fun y hy => h y (by simp [hy]), aopt_congr hi fun y hy => h y (by simp [hy]), aopt_congr mx fun y hy => h y (by simp [hy])]
  all_goals (simp at h; try simp only [h])

theorem amake_congr {T T' : Trie AV} {op : Op} (h : ∀ x ∈ op.operands.toList, aeval H T x = aeval H T' x) : amake P H T op = amake P H T' op := by
  cases op <;> simp only [amake] <;> simp only [Op.operands] at h
  case box t x => rw [h x (by simp)]
  case buildSlice t len parts => rw [aparts_congr _ fun x hx => h x.2 (by simp; exact ⟨x.1, by simpa using hx⟩)]
  case makeSlice t l c => rw [h l (by simp), h c (by simp)]
  case makeMap t r => rw [aopt_congr r fun x hx => h x (by simp [hx])]

theorem alight_congr {T T' : Trie AV} {op : Op} (h : ∀ x ∈ op.operands.toList, aeval H T x = aeval H T' x) : alight P H T op = alight P H T' op := by
  cases op <;> simp only [alight] <;> simp only [Op.operands] at h <;> (try rfl)
  case call c =>
    have ha : aevals H T c.args.toList = aevals H T' c.args.toList := aevals_congr _ fun x hx => h x (by simp [Call.operands]; exact .inr (by simpa using hx))
    rw [ha]
  case build t parts => rw [aparts_congr _ fun x hx => h x.2 (by simp; exact ⟨x.1, by simpa using hx⟩)]
  case makeFunc fn first cap =>
    rw [aevals_congr first.toList fun x hx => h x (by simp; exact .inl (by simpa using hx)), aevals_congr cap.toList fun x hx => h x (by simp; exact .inr (by simpa using hx))]
  case slice t x lo hi mx =>
    rw [h x (by simp), aopt_congr lo fun y hy => h y (by simp [hy]), aopt_congr hi fun y hy => h y (by simp [hy]), aopt_congr mx fun y hy => h y (by simp [hy])]
  all_goals (simp at h; try simp only [h])

theorem Sh.mk_inj {a b : Sh} {x y : Nat} (h : a.mk x = b.mk y) : a = b ∧ x = y := by
  cases a <;> cases b <;> simp only [Sh.mk, reduceCtorEq] at h
  · injection h with h; injection h with h; exact ⟨rfl, congrArg Prod.fst h⟩
  · injection h with h1 h2 h3 h4; injection h1 with h1; subst h2 h3 h4; exact ⟨rfl, congrArg Prod.fst h1⟩
  · injection h with h; injection h with h; exact ⟨rfl, h⟩

theorem alloc_inj {o o' : AObj} (h : H.alloc o = H.alloc o') : o = o' := by
  have h1 : (H.alloc o).get H.next = (H.alloc o').get H.next := by rw [h]
  rw [AHeap.get_alloc, AHeap.get_alloc, if_pos rfl, if_pos rfl] at h1
  exact Option.some.inj h1

theorem amake_run (h : Rel j H w) {n : Nat} {T : Trie AV} {a : Act} (ht : TRel j n T a.tmps) {o : Oper} {sh : Sh} {ob : AObj} (he : amake P H T o.op = some (sh, ob)) :
    ∃ v' w', (execOp a.eval o).run P w = .ok (.value v') w' ∧ Made j w sh ob v' w' := by
  have E := fun x => aeval_rel h ht x
  have hx := amake_exec (P := P) he
  have fin : ∀ (s : Sem Value) (r : AV × AHeap), r = (sh.mk H.next, H.alloc ob) → (∃ x' w' j', s.run P w = .ok x' w' ∧ VRel j' r.1 x' ∧ Rel j' r.2 w' ∧ Ext j H w j' r.2 w' ∧ ∃ sh o, r = (Sh.mk sh H.next, H.alloc o) ∧ Made j w sh o x' w') →
      ∃ v' w', (do pure (.value (← s)) : Sem Next).run P w = .ok (.value v') w' ∧ Made j w sh ob v' w' := by
    rintro s r hr ⟨x', w', j', h1, _, _, _, sh', o', h2, h3⟩
    rw [hr] at h2
    injection h2 with h4 h5
    obtain ⟨e1, _⟩ := Sh.mk_inj h4
    have e2 := alloc_inj h5
    subst e1 e2
    exact ⟨x', w', by simp [h1], h3⟩
  unfold execOp
  cases ho : o.op <;> rw [ho] at he hx <;> simp only [amake, reduceCtorEq] at he <;> simp only [aexec] at hx
  case alloc t =>
    cases hr : aalloc P H t with
    | none => rw [hr] at hx; simp [ofVH] at hx
    | some r =>
      rw [hr] at hx; simp only [ofVH] at hx; injection hx with e1 e2
      exact fin _ r (Prod.ext e1 e2) (aalloc_sound h hr)
  case box t x =>
    cases hr : abox H (aeval H T x) with
    | none => rw [hr] at hx; simp [ofVH] at hx
    | some r =>
      rw [hr] at hx; simp only [ofVH] at hx; injection hx with e1 e2
      exact fin _ r (Prod.ext e1 e2) (abox_sound h (E x) hr)
  case buildSlice t len parts =>
    cases hr : abuildSlice P H t len (aparts H T parts.toList) with
    | none => rw [hr] at hx; simp [ofVH] at hx
    | some r =>
      rw [hr] at hx; simp only [ofVH] at hx; injection hx with e1 e2
      have hpm : (parts.toList.map fun p => (p.1, a.eval p.2)).toArray = parts.map fun (i, x) => (i, a.eval x) := by apply Array.ext'; simp
      simp only [← hpm]
      exact fin _ r (Prod.ext e1 e2) (abuildSlice_sound h (aparts_rel h ht parts.toList) hr)
  case makeSlice t l c =>
    cases hr : amakeSlice P H t (aeval H T l) (aeval H T c) with
    | none => rw [hr] at hx; simp [ofVH] at hx
    | some r =>
      rw [hr] at hx; simp only [ofVH] at hx; injection hx with e1 e2
      exact fin _ r (Prod.ext e1 e2) (amakeSlice_sound h (E l) (E c) hr)
  case makeMap t r =>
    cases hr : amakeMap P H t (aopt H T r) with
    | none => rw [hr] at hx; simp [ofVH] at hx
    | some q =>
      rw [hr] at hx; simp only [ofVH] at hx; injection hx with e1 e2
      exact fin _ q (Prod.ext e1 e2) (amakeMap_sound h (aopt_rel h ht r) hr)

/-- an object that no block holds yet -/
theorem Rel.virtual (h : Rel j H w) {o : AObj} (ho : o.olds = []) : Rel j (H.alloc o) w := by
  have hn : j H.next = none := h.bound _ (Nat.le_refl _)
  have hne : ∀ b e, j b = some e → b ≠ H.next := fun b e hb hh => by rw [hh, hn] at hb; cases hb
  refine ⟨by simp only [AHeap.gn_alloc, AHeap.next_alloc]; have := h.gnn; omega, fun g o' hg ho' => ?_, fun b hb => ?_, fun b hb => ?_, fun b o' e hb he => ?_, fun b1 b2 o1 o2 e1 e2 h1 hw he1 h2 he2 hee => ?_, fun b1 b2 o1 h1 hin => ?_, fun b1 b2 w1 w2 l1 l2 c1 c2 e1 e2 h1 hin h2 he1 he2 hee => ?_⟩
  · simp only [AHeap.gn_alloc] at hg
    have := h.gnn
    rw [AHeap.get_alloc, if_neg (by omega)] at ho'
    exact h.glob g o' hg ho'
  · simp only [AHeap.next_alloc] at hb; exact h.bound b (by omega)
  · simp only [AHeap.next_alloc] at hb
    rw [AHeap.get_alloc, if_neg (by omega)]; exact h.low b (by omega)
  · rw [AHeap.get_alloc, if_neg (hne b e he)] at hb; exact h.objs b o' e hb he
  · rw [AHeap.get_alloc, if_neg (hne _ _ he1)] at h1
    rw [AHeap.get_alloc, if_neg (hne _ _ he2)] at h2
    exact h.apart b1 b2 o1 o2 e1 e2 h1 hw he1 h2 he2 hee
  · rw [AHeap.get_alloc] at h1
    split at h1
    · cases h1; rw [ho] at hin; cases hin
    · obtain ⟨f1, f2⟩ := h.fixed b1 b2 o1 h1 hin
      refine ⟨by simp only [AHeap.next_alloc]; omega, fun o2 h2 => ?_⟩
      rw [AHeap.get_alloc, if_neg (by omega)] at h2
      exact f2 o2 h2
  · rw [AHeap.get_alloc, if_neg (hne _ _ he1)] at h1
    rw [AHeap.get_alloc, if_neg (hne _ _ he2)] at h2
    exact h.ends b1 b2 w1 w2 l1 l2 c1 c2 e1 e2 h1 hin h2 he1 he2 hee

/-- such an object gets its block -/
theorem Rel.realize (h : Rel j H w) {id : Nat} {sh : Sh} {o : AObj} {v : Value} {w' : World} (hid : H.get id = some o) (hj : j id = none) (hg : H.gn ≤ id) (hm : Made j w sh o v w') :
    ∃ e, Rel (j.set id e) H w' ∧ VRel (j.set id e) (sh.mk id) v ∧ j.le (j.set id e) ∧
      ∀ (j0 : J) (H0 : AHeap) (w0 : World), Ext j0 H0 w0 j H w → H0.next ≤ id → Ext j0 H0 w0 (j.set id e) H w' := by
  obtain ⟨ho, obj, n, rfl, hmk⟩ := hm
  have hle := J.le_set hj (w.heap.size, 0, n)
  obtain ⟨hv, hor⟩ := hmk (j.set id (w.heap.size, 0, n)) id hle (J.set_self _ _ _)
  have hold : ∀ k, k < w.heap.size → ({ w with heap := w.heap.push obj } : World).heap[k]? = w.heap[k]? := fun k hk => by
    show (w.heap.push obj)[k]? = _
    rw [Array.getElem?_push, if_neg (by omega)]
  have hother : ∀ b e, j.set id (w.heap.size, 0, n) b = some e → b ≠ id → j b = some e := fun b e hb hne => by simpa [J.set, hne] using hb
  have hidn : id < H.next := by
    rcases Nat.lt_or_ge id H.next with hlt | hge
    · exact hlt
    · rw [h.low id hge] at hid; cases hid
  refine ⟨(w.heap.size, 0, n), ?_, hv, hle, ?_⟩
  · refine ⟨h.gnn, fun g o' hg' ho' => ?_, fun b hb => ?_, h.low, fun b o' e hb he => ?_, fun b1 b2 o1 o2 e1 e2 h1 hw he1 h2 he2 hee => ?_, fun b1 b2 o1 h1 hin => ?_, fun b1 b2 w1 w2 l1 l2 c1 c2 e1 e2 h1 hin h2 he1 he2 hee => ?_⟩
    · obtain ⟨n', hn'⟩ := h.glob g o' hg' ho'
      exact ⟨n', hle _ _ hn'⟩
    · simp only [J.set]; rw [if_neg (by omega)]; exact h.bound b hb
    · by_cases hbi : b = id
      · subst hbi; rw [J.set_self] at he; cases he; rw [hid] at hb; cases hb; exact hor
      · have he' := hother b e he hbi
        exact (h.objs b o' e hb he').keep hle (hold _ (h.block_lt hb he'))
    · by_cases hb1 : b1 = id
      · by_cases hb2 : b2 = id
        · exact .inl (hb1.trans hb2.symm)
        · have he2' := hother b2 e2 he2 hb2
          have := h.block_lt h2 he2'
          subst hb1; rw [J.set_self] at he1; cases he1
          simp only at hee; omega
      · have he1' := hother b1 e1 he1 hb1
        by_cases hb2 : b2 = id
        · have := h.block_lt h1 he1'
          subst hb2; rw [J.set_self] at he2; cases he2
          simp only at hee; omega
        · exact h.apart b1 b2 o1 o2 e1 e2 h1 hw he1' h2 (hother b2 e2 he2 hb2) hee
    · obtain ⟨f1, f2⟩ := h.fixed b1 b2 o1 h1 hin
      refine ⟨f1, fun o2 h2 => ⟨(f2 o2 h2).1, fun hh => ?_⟩⟩
      simp only [J.set] at hh
      split at hh
      · cases hh
      · exact (f2 o2 h2).2 hh
    · by_cases hb1 : b1 = id
      · subst hb1; rw [hid] at h1; cases h1
        simp only [AObj.olds] at ho; rw [ho] at hin; cases hin
      · have he1' := hother b1 e1 he1 hb1
        have hb2 : b2 ≠ id := fun hh => by
          have := ((h.fixed b1 b2 _ h1 hin).2 _ h2).2
          rw [hh] at this; exact this hj
        exact h.ends b1 b2 w1 w2 l1 l2 c1 c2 e1 e2 h1 hin h2 he1' (hother b2 e2 he2 hb2) hee
  · intro j0 H0 w0 E hlt
    refine ⟨J.le_trans E.le hle, E.next, Nat.le_trans E.size (by simp), fun B hB hW => ?_, fun B hB => ?_, fun b hb hj0 => ?_, E.tape, E.os, E.output⟩
    · rw [hold B (Nat.lt_of_lt_of_le hB E.size)]; exact E.frame B hB hW
    · obtain ⟨b, o', e, h1, h2, h3, h4⟩ := hB
      by_cases hbi : b = id
      · subst hbi; rw [J.set_self] at h3; cases h3
        exact .inr (by simp only at h4; have := E.size; omega)
      · exact E.newW B ⟨b, o', e, h1, h2, hother b e h3 hbi, h4⟩
    · obtain ⟨q1, q2⟩ := E.virt b hb hj0
      refine ⟨?_, q2⟩
      simp only [J.set]; rw [if_neg (by omega)]; exact q1

end Go.Ah
