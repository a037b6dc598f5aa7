/- Regions whose order is drawn: all orders come out alike. -/
import Derived.Test.YtcapeganlaibhaaGreatDoorAhRun
set_option linter.unusedVariables false
set_option linter.unusedSimpArgs false
namespace Go.Ah

variable {P : Program} {j : J} {H : AHeap} {w : World}

theorem AVpairs.beq_eq : ∀ {l m : List (AV × AV)}, AVpairs.beq l m = true → l = m
  | [], [], _ => rfl
  | [], _ :: _, h => by simp [AVpairs.beq] at h
  | _ :: _, [], h => by simp [AVpairs.beq] at h
  | (a, b) :: l, (c, d) :: m, h => by
    simp only [AVpairs.beq, Bool.and_eq_true] at h
    rw [AV.beq_eq _ _ h.1, AV.beq_eq _ _ h.2.1, AVpairs.beq_eq h.2.2]
theorem natsBeq_eq : ∀ {l m : List Nat}, natsBeq l m = true → l = m
  | [], [], _ => rfl
  | [], _ :: _, h => by simp [natsBeq] at h
  | _ :: _, [], h => by simp [natsBeq] at h
  | a :: l, b :: m, h => by
    simp only [natsBeq, Bool.and_eq_true] at h
    rw [Nat.eq_of_beq_eq_true h.1, natsBeq_eq h.2]
theorem AObj.beq_eq {a b : AObj} (h : AObj.beq a b = true) : a = b := by
  unfold AObj.beq at h
  split at h
  · simp only [Bool.and_eq_true] at h
    rw [beqBool_eq h.1, natsBeq_eq h.2.1, AV.beqs_eq _ _ h.2.2]
  · rw [AVpairs.beq_eq h]
  · cases h

theorem allB_all {α : Type} {p : α → Bool} : ∀ {l : List α}, allB p l = true → ∀ x ∈ l, p x = true
  | [], _, x, hx => by cases hx
  | y :: l, h, x, hx => by
    simp only [allB, Bool.and_eq_true] at h
    rcases List.mem_cons.1 hx with rfl | hx
    · exact h.1
    · exact allB_all h.2 x hx
theorem anyB_false {α : Type} {p : α → Bool} : ∀ {l : List α}, (∀ x ∈ l, p x = false) → anyB p l = false
  | [], _ => rfl
  | y :: l, h => by simp only [anyB]; rw [h y (by simp), anyB_false fun x hx => h x (by simp [hx])]; rfl
theorem mem_filterB {α : Type} {p : α → Bool} {x : α} : ∀ {l : List α}, x ∈ filterB p l ↔ x ∈ l ∧ p x = true
  | [] => by simp [filterB]
  | y :: l => by
    simp only [filterB]
    split
    · rename_i h
      simp only [List.mem_cons, mem_filterB (l := l)]
      constructor
      · rintro (rfl | ⟨h1, h2⟩)
        · exact ⟨.inl rfl, h⟩
        · exact ⟨.inr h1, h2⟩
      · rintro ⟨rfl | h1, h2⟩
        · exact .inl rfl
        · exact .inr ⟨h1, h2⟩
    · rename_i h
      simp only [List.mem_cons, mem_filterB (l := l)]
      constructor
      · rintro ⟨h1, h2⟩; exact ⟨.inr h1, h2⟩
      · rintro ⟨rfl | h1, h2⟩
        · rw [h] at h2; cases h2
        · exact ⟨h1, h2⟩

theorem ents_mem : ∀ {l : List Oper} {i : Nat} {ms : List Nat} {e : Ent}, e ∈ ents i l ms → ∃ k, e.i = i + k ∧ l[k]? = some e.o ∧ ms[k]? = some e.m
  | [], i, ms, e, h => by cases ms <;> simp [ents] at h
  | o :: l, i, [], e, h => by simp [ents] at h
  | o :: l, i, m :: ms, e, h => by
    simp only [ents, List.mem_cons] at h
    rcases h with rfl | h
    · exact ⟨0, rfl, rfl, rfl⟩
    · obtain ⟨k, h1, h2, h3⟩ := ents_mem h
      exact ⟨k + 1, by omega, by simpa using h2, by simpa using h3⟩
theorem ents_of : ∀ {l : List Oper} {i : Nat} {ms : List Nat} {k : Nat} {o : Oper} {m : Nat}, l[k]? = some o → ms[k]? = some m → ⟨i + k, o, m⟩ ∈ ents i l ms
  | [], i, ms, k, o, m, h, _ => by simp at h
  | x :: l, i, [], k, o, m, _, h => by simp at h
  | x :: l, i, y :: ms, k, o, m, h1, h2 => by
    simp only [ents, List.mem_cons]
    cases k with
    | zero => simp only [List.getElem?_cons_zero, Option.some.injEq] at h1 h2; subst h1 h2; exact .inl rfl
    | succ k =>
      refine .inr ?_
      have := ents_of (i := i + 1) (k := k) (by simpa using h1) (by simpa using h2)
      rwa [show i + 1 + k = i + (k + 1) by omega] at this

/-- the operations of a region, each with its place and those before it -/
def entsOf (ops : Array Oper) : List Ent := ents 0 ops.toList (masks ops.toList [])

theorem entsOf_mem {ops : Array Oper} {e : Ent} (h : e ∈ entsOf ops) : ops[e.i]? = some e.o ∧ e.m = (masks ops.toList []).getD e.i 0 := by
  obtain ⟨k, h1, h2, h3⟩ := ents_mem h
  have : e.i = k := by omega
  subst this
  exact ⟨by simpa using h2, by rw [List.getD_eq_getElem?_getD, h3]; rfl⟩
theorem entsOf_of {ops : Array Oper} {i : Nat} {o : Oper} (h : ops[i]? = some o) : ∃ e ∈ entsOf ops, e.i = i ∧ e.o = o := by
  obtain ⟨r, h1, h2⟩ := masks_prefix ops.toList []
  have hlt : i < (masks ops.toList []).length := by
    rw [h1]
    have := (Array.getElem?_eq_some_iff.1 h).1
    simp [h2, this]
  have := ents_of (i := 0) (l := ops.toList) (ms := masks ops.toList []) (k := i) (o := o) (m := (masks ops.toList [])[i]) (by simpa using h) (List.getElem?_eq_getElem hlt)
  rw [Nat.zero_add] at this
  exact ⟨_, this, rfl, rfl⟩
theorem entsOf_inj {ops : Array Oper} {e e' : Ent} (h : e ∈ entsOf ops) (h' : e' ∈ entsOf ops) (hi : e.i = e'.i) : e = e' := by
  obtain ⟨h1, h2⟩ := entsOf_mem h
  obtain ⟨h3, h4⟩ := entsOf_mem h'
  rw [hi] at h1 h2
  rw [h3] at h1
  cases e; cases e'
  simp only at hi h1 h2 h4
  cases h1
  subst hi
  rw [h2, h4]

theorem ents_lt : ∀ {l : List Oper} {i : Nat} {ms : List Nat}, (ents i l ms).Pairwise fun a b => a.i < b.i
  | [], i, ms => by cases ms <;> simp [ents]
  | o :: l, i, [] => by simp [ents]
  | o :: l, i, m :: ms => by
    simp only [ents, List.pairwise_cons]
    refine ⟨fun e he => ?_, ents_lt⟩
    obtain ⟨k, h1, _⟩ := ents_mem he
    show i < e.i
    omega
theorem filterB_sub {α : Type} (p : α → Bool) : ∀ (l : List α), (filterB p l).Sublist l
  | [] => by simp [filterB]
  | x :: l => by
    simp only [filterB]
    split
    · exact (filterB_sub p l).cons_cons x
    · exact (filterB_sub p l).cons x

/-! ## what is checked beforehand -/
structure DrawOk (ops : Array Oper) : Prop where
  back : Back ops
  reads : ∀ e ∈ entsOf ops, ∀ t ∈ readsE e, ∀ l ∈ entsOf ops, heavy l.o.op = false → l.o.dst = some t → hasBit e.m l.i = true
  guard : ∀ e ∈ entsOf ops, ∀ g b, e.o.guard = some (g, b) → hasBit e.m g = true ∧ g < e.i
  own : ∀ l ∈ entsOf ops, heavy l.o.op = false → ∃ d, l.o.dst = some d ∧ ∀ e ∈ entsOf ops, e.i = l.i ∨ e.o.dst ≠ some d
  linked : (filterB heavyE (entsOf ops)).Pairwise fun a b => hasBit b.m a.i = true

theorem backOk_back : ∀ {l : List Oper} {i : Nat}, backOk i l = true → ∀ k o, l[k]? = some o → ∀ x ∈ edgesOn o, x < i + k
  | [], i, h, k, o, ho, x, hx => by simp at ho
  | y :: l, i, h, k, o, ho, x, hx => by
    simp only [backOk, Bool.and_eq_true] at h
    cases k with
    | zero =>
      simp only [List.getElem?_cons_zero, Option.some.injEq] at ho
      subst ho
      exact blt_true (allB_all h.1 x hx)
    | succ k =>
      have := backOk_back h.2 k o (by simpa using ho) x hx
      omega
theorem linked_pairwise : ∀ {l : List Ent}, linked l = true → l.Pairwise fun a b => hasBit b.m a.i = true
  | [], _ => List.Pairwise.nil
  | x :: l, h => by
    simp only [linked, Bool.and_eq_true] at h
    exact List.Pairwise.cons (fun y hy => allB_all h.1 y hy) (linked_pairwise h.2)
theorem isDst_true {d : Option Nat} {t : Nat} : isDst d t = true ↔ d = some t := by
  cases d with
  | none => simp [isDst]
  | some d =>
    simp only [isDst, Option.some.injEq]
    exact ⟨Nat.eq_of_beq_eq_true, fun h => by rw [h]; exact Nat.beq_refl _⟩

theorem drawOk_ok {ops : Array Oper} (h : drawOk ops.toList (entsOf ops) = true) : DrawOk ops := by
  simp only [drawOk, Bool.and_eq_true] at h
  obtain ⟨h1, h2, h3, h4⟩ := h
  refine ⟨fun i o ho k hk => ?_, fun e he t ht l hl hlh hld => ?_, fun e he g b hg => ?_, fun l hl hlh => ?_, linked_pairwise h4⟩
  · have := backOk_back h1 i o (by simpa using ho) k hk
    omega
  · have := (Bool.and_eq_true _ _ ▸ allB_all h2 e he : _ ∧ _).1
    have := allB_all (allB_all this t ht) l (mem_filterB.2 ⟨hl, by simp [lightE, hlh]⟩)
    simpa [isDst_true.2 hld] using this
  · have := (Bool.and_eq_true _ _ ▸ allB_all h2 e he : _ ∧ _).2
    simp only [guardOk, hg, Bool.and_eq_true] at this
    exact ⟨this.1, blt_true this.2⟩
  · have := allB_all h3 l (mem_filterB.2 ⟨hl, by simp [lightE, hlh]⟩)
    unfold ownDst at this
    split at this
    · cases this
    · rename_i d hd
      refine ⟨d, hd, fun e he => ?_⟩
      have := allB_all this e he
      simp only [Bool.or_eq_true, Bool.not_eq_true'] at this
      rcases this with h | h
      · exact .inl (Nat.eq_of_beq_eq_true h)
      · refine .inr fun hh => ?_
        rw [isDst_true.2 hh] at h; cases h

/-! ## tmps of operations still to come -/
theorem get_eraseAll : ∀ (l : List Ent) (T : Trie AV) (t : Nat) (v : AV), (eraseAll T l).get t = some v ↔ T.get t = some v ∧ ∀ e ∈ l, e.o.dst ≠ some t
  | [], T, t, v => by simp [eraseAll]
  | e :: l, T, t, v => by
    simp only [eraseAll]
    split
    · rename_i d hd
      rw [get_eraseAll l, Trie.get_put]
      by_cases h : t = d
      · subst h; simp [hd]
      · rw [if_neg h]
        simp only [List.mem_cons, forall_eq_or_imp, hd, ne_eq, Option.some.injEq]
        constructor
        · rintro ⟨h1, h2⟩; exact ⟨h1, fun hh => h hh.symm, h2⟩
        · rintro ⟨h1, _, h2⟩; exact ⟨h1, h2⟩
    · rename_i hd
      rw [get_eraseAll l]
      simp [hd]

theorem get_eraseAll_eq {l : List Ent} {T : Trie AV} {t : Nat} (h : ∀ e ∈ l, e.o.dst ≠ some t) : (eraseAll T l).get t = T.get t := by
  cases hg : T.get t with
  | some v => exact (get_eraseAll l T t v).2 ⟨hg, h⟩
  | none =>
    cases hh : (eraseAll T l).get t with
    | none => rfl
    | some v => rw [((get_eraseAll l T t v).1 hh).1] at hg; cases hg

theorem mem_tmpsOf {t : Nat} : ∀ {l : List Operand}, Operand.tmp t ∈ l → t ∈ tmpsOf l
  | [], h => by cases h
  | x :: l, h => by
    simp only [tmpsOf]
    rcases List.mem_cons.1 h with rfl | h
    · simp [tmpOf]
    · split
      · exact List.mem_cons_of_mem _ (mem_tmpsOf h)
      · exact mem_tmpsOf h

theorem aeval_agree {T T' : Trie AV} {e : Ent} (h : ∀ t ∈ readsE e, T.get t = T'.get t) : ∀ x ∈ e.o.op.operands.toList, aeval H T x = aeval H T' x := by
  intro x hx
  cases x with
  | tmp t => simp only [aeval]; rw [h t (mem_tmpsOf hx)]
  | const v => rfl
  | global g => rfl
  | func f => rfl

theorem aguard_agree {ops : Array Oper} {T T' : Trie AV} {o : Oper} (h : ∀ g b o' d, o.guard = some (g, b) → ops[g]? = some o' → o'.dst = some d → T.get d = T'.get d) : aguard ops T o = aguard ops T' o := by
  unfold aguard
  split
  · rfl
  · rename_i g b hg
    split
    · rename_i o' ho
      split
      · rename_i d hd
        rw [h g b o' d hg ho hd]
      · rfl
    · rfl

theorem tput_cases {n : Nat} {T : Trie AV} {dst : Option Tmp} {v : AV} {k : Trie AV → Prop} (h : tput botP n T dst v k) : (dst = none ∧ k T) ∨ ∃ d, dst = some d ∧ d < n ∧ k (T.put d (some v)) := by
  cases dst with
  | none => exact .inl ⟨rfl, h⟩
  | some d =>
    simp only [tput] at h
    split at h
    · exact .inr ⟨d, rfl, blt_true (by assumption), h⟩
    · exact h.elim

/-- a value is put behind what is still to come -/
theorem TRel.put_cleared {n : Nat} {T : Trie AV} {a : Act} {l l' : List Ent} (h : TRel j n (eraseAll T l) a.tmps) {d : Nat} {v : AV} {x : Value} (hd : d < n) (hv : VRel j v x)
    {T' : Trie AV} (hT : ∀ t, T'.get t = if t = d then some v else T.get t) (hl : ∀ e ∈ l, e.o.dst = some d ∨ e ∈ l') : TRel j n (eraseAll T' l') (a.put (some d) x).tmps := by
  have hp := TRel.put h hd hv
  refine ⟨hp.size, fun t u hu => hp.get t u ?_⟩
  obtain ⟨h1, h2⟩ := (get_eraseAll _ _ _ _).1 hu
  rw [Trie.get_put]
  rw [hT] at h1
  split
  · rename_i ht; rw [if_pos ht] at h1; exact h1
  · rename_i ht
    rw [if_neg ht] at h1
    refine (get_eraseAll _ _ _ _).2 ⟨h1, fun e he hd' => ?_⟩
    rcases hl e he with hh | hh
    · rw [hh] at hd'; cases hd'; exact ht rfl
    · exact h2 e hh hd'

theorem Ext.virtual {j0 j : J} {H0 H : AHeap} {w0 w : World} (E : Ext j0 H0 w0 j H w) (h : Rel j H w) (o : AObj) : Ext j0 H0 w0 j (H.alloc o) w := by
  have hn : j H.next = none := h.bound _ (Nat.le_refl _)
  refine ⟨E.le, by rw [AHeap.next_alloc]; have := E.next; omega, E.size, E.frame, fun B hB => ?_, fun b hb hj => ?_, E.tape, E.os, E.output⟩
  · obtain ⟨b, o', e, h1, h2, h3, h4⟩ := hB
    have hne : b ≠ H.next := fun hh => by rw [hh, hn] at h3; cases h3
    rw [AHeap.get_alloc, if_neg hne] at h1
    exact E.newW B ⟨b, o', e, h1, h2, h3, h4⟩
  · obtain ⟨q1, q2⟩ := E.virt b hb hj
    refine ⟨q1, ?_⟩
    have := E.next
    rw [AHeap.get_alloc, if_neg (by omega)]
    exact q2

/-- of what stands in `S` and makes something: its number, which has no block yet -/
def Virt (j : J) (m : Nat) (S : List Ent) (T : Trie AV) (H : AHeap) : Prop :=
  ∀ e ∈ S, makes e.o.op = true → ∀ d v id, e.o.dst = some d → T.get d = some v → shId v = some id → j id = none ∧ m ≤ id ∧ id < H.next

theorem shId_mk (sh : Sh) (b : Nat) : shId (sh.mk b) = some b := by cases sh <;> rfl
theorem shId_undef : shId undefA = none := rfl

end Go.Ah
