/- Regions whose order is drawn: the proof. -/
import Derived.Test.YtcapeganlaibhaaGreatDoorAhDraw
set_option linter.unusedVariables false
set_option linter.unusedSimpArgs false
namespace Go.Ah

variable {P : Program} {j : J} {H : AHeap} {w : World}

/-- one light operation, in the abstract -/
theorem runLight_virt {n : Nat} {ops : Array Oper} {e : Ent} {T T' : Trie AV} {H H' : AHeap} (hr : runLight P n ops e T H = some (T', H')) {j0 : J} {H0 : AHeap} {w0 : World} (h : Rel j H w) (E : Ext j0 H0 w0 j H w)
    {S : List Ent} (hV : Virt j H0.next S T H) (hS : ∀ e' ∈ S, e' = e ∨ e'.o.dst ≠ e.o.dst) :
    Rel j H' w ∧ Ext j0 H0 w0 j H' w ∧ Virt j H0.next (e :: S) T' H' ∧ H.next ≤ H'.next ∧ ∃ d v, e.o.dst = some d ∧ d < n ∧ T' = T.put d (some v) := by
  -- what was made before stays
  have keep : ∀ (d : Nat) (v : AV) (H' : AHeap), e.o.dst = some d → H.next ≤ H'.next → (∀ id, makes e.o.op = true → shId v = some id → j id = none ∧ H0.next ≤ id ∧ id < H'.next) → Virt j H0.next (e :: S) (T.put d (some v)) H' := by
    intro d v H' hd hn hnew e' he' hm d' v' id hd' hv' hid
    have hcase : e' = e ∨ (e' ∈ S ∧ e'.o.dst ≠ e.o.dst) := by
      rcases List.mem_cons.1 he' with hh | hh
      · exact .inl hh
      · rcases hS e' hh with h1 | h1
        · exact .inl h1
        · exact .inr ⟨hh, h1⟩
    rw [Trie.get_put] at hv'
    rcases hcase with rfl | ⟨h1, h2⟩
    · rw [hd] at hd'; cases hd'
      rw [if_pos rfl] at hv'; cases hv'
      exact hnew id hm hid
    · have hne : d' ≠ d := fun hh => h2 (by rw [hd', hd, hh])
      rw [if_neg hne] at hv'
      obtain ⟨q1, q2, q3⟩ := hV e' h1 hm d' v' id hd' hv' hid
      exact ⟨q1, q2, by omega⟩
  unfold runLight at hr
  split at hr
  · cases hr
  · rename_i d hd
    split at hr
    · cases hr
    · rename_i hdn
      have hdn' : d < n := blt_true hdn
      split at hr
      · cases hr
      · cases hr
        exact ⟨h, E, keep d undefA H hd (Nat.le_refl _) (fun id _ hid => by rw [shId_undef] at hid; cases hid), Nat.le_refl _, d, undefA, hd, hdn', rfl⟩
      · split at hr
        · rename_i hmk
          split at hr
          · rename_i sh ob ham
            split at hr
            · rename_i hol
              cases hr
              have hle := E.next
              refine ⟨h.virtual hol, E.virtual h ob, keep d _ _ hd (by rw [AHeap.next_alloc]; omega) (fun id _ hid => ?_), by rw [AHeap.next_alloc]; omega, d, _, hd, hdn', rfl⟩
              rw [shId_mk] at hid; cases hid
              exact ⟨h.bound _ (Nat.le_refl _), hle, by rw [AHeap.next_alloc]; omega⟩
            · cases hr
          · cases hr
        · rename_i hmk
          split at hr
          · rename_i v hal
            cases hr
            exact ⟨h, E, keep d v H hd (Nat.le_refl _) (fun id hm _ => by rw [hm] at hmk; cases hmk), Nat.le_refl _, d, v, hd, hdn', rfl⟩
          · cases hr

theorem runLights_virt {n : Nat} {ops : Array Oper} {j0 : J} {H0 : AHeap} {w0 : World} : ∀ (G : List Ent) (T T' : Trie AV) (H H' : AHeap), runLights P n ops G T H = some (T', H') → Rel j H w → Ext j0 H0 w0 j H w →
    ∀ (S : List Ent), Virt j H0.next S T H → (∀ e ∈ G, ∀ e' ∈ S, e' = e ∨ e'.o.dst ≠ e.o.dst) → (∀ e ∈ G, ∀ e' ∈ G, e' = e ∨ e'.o.dst ≠ e.o.dst) →
    Rel j H' w ∧ Ext j0 H0 w0 j H' w ∧ (∃ S', Virt j H0.next S' T' H' ∧ (∀ e ∈ S, e ∈ S') ∧ ∀ e ∈ G, e ∈ S') ∧ (∀ t, (∀ e ∈ G, e.o.dst ≠ some t) → T'.get t = T.get t) ∧ ∀ e ∈ G, ∀ d, e.o.dst = some d → d < n
  | [], T, T', H, H', hr, h, E, S, hV, _, _ => by
    simp only [runLights, Option.some.injEq, Prod.mk.injEq] at hr
    obtain ⟨rfl, rfl⟩ := hr
    exact ⟨h, E, ⟨S, hV, fun _ h => h, fun _ h => by cases h⟩, fun _ _ => rfl, fun _ h => by cases h⟩
  | e :: G, T, T', H, H', hr, h, E, S, hV, hS, hG => by
    simp only [runLights] at hr
    split at hr
    · cases hr
    · rename_i T1 H1 h1
      obtain ⟨r1, r2, r3, r4, d, v, r5, r6, r7⟩ := runLight_virt h1 h E hV (hS e (by simp))
      obtain ⟨q1, q2, ⟨S', q3, q4, q5⟩, q6, q7⟩ := runLights_virt G T1 T' H1 H' hr r1 r2 (e :: S) r3 (fun e1 he1 e2 he2 => by
        rcases List.mem_cons.1 he2 with rfl | he2
        · exact hG e1 (by simp [he1]) _ (by simp)
        · exact hS e1 (by simp [he1]) e2 he2) (fun e1 he1 e2 he2 => hG e1 (by simp [he1]) e2 (by simp [he2]))
      refine ⟨q1, q2, ⟨S', q3, fun e' he' => q4 e' (by simp [he']), fun e' he' => ?_⟩, fun t ht => ?_, fun e' he' d' hd' => ?_⟩
      · rcases List.mem_cons.1 he' with rfl | he'
        · exact q4 _ (by simp)
        · exact q5 e' he'
      · rw [q6 t fun e' he' => ht e' (by simp [he']), r7, Trie.get_put, if_neg]
        intro hh
        exact ht e (by simp) (by rw [r5, hh])
      · rcases List.mem_cons.1 he' with rfl | he'
        · rw [r5] at hd'; cases hd'; exact r6
        · exact q7 e' he' d' hd'

/-- the light ones before the stage `k` that are still to come -/
def pend (es hs : List Ent) (k : Nat) (done : List Nat) : List Ent :=
  filterB (fun e => lightE e && (Nat.blt (stage hs e.m) k && !done.contains e.i)) es

theorem mem_pend {es hs : List Ent} {k : Nat} {done : List Nat} {e : Ent} : e ∈ pend es hs k done ↔ e ∈ es ∧ heavy e.o.op = false ∧ stage hs e.m < k ∧ e.i ∉ done := by
  unfold pend
  rw [mem_filterB]
  simp only [lightE, Bool.and_eq_true, Bool.not_eq_true', List.contains_eq_mem, decide_eq_false_iff_not]
  constructor
  · rintro ⟨h1, h2, h3, h4⟩; exact ⟨h1, h2, blt_true h3, h4⟩
  · rintro ⟨h1, h2, h3, h4⟩
    refine ⟨h1, h2, ?_, h4⟩
    exact Nat.ble_eq_true_of_le h3

theorem stage_le : ∀ (hs past : List Ent) (m : Nat), hs.Nodup → (∀ h ∈ hs, hasBit m h.i = true → h ∈ past) → stage hs m ≤ past.length
  | [], past, m, _, _ => by simp [stage]
  | h :: hs, past, m, hn, hp => by
    simp only [List.nodup_cons] at hn
    simp only [stage]
    split
    · rename_i hb
      have hmem := hp h (by simp) hb
      obtain ⟨l1, l2, rfl⟩ := List.append_of_mem hmem
      have := stage_le hs (l1 ++ l2) m hn.2 fun x hx hxb => by
        have := hp x (by simp [hx]) hxb
        simp only [List.mem_append, List.mem_cons] at this ⊢
        rcases this with h1 | rfl | h1
        · exact .inl h1
        · exact absurd hx hn.1
        · exact .inr h1
      simp only [List.length_append, List.length_cons] at this ⊢
      omega
    · exact stage_le hs past m hn.2 fun x hx => hp x (by simp [hx])

structure DInv (ops : Array Oper) (n : Nat) (j0 : J) (H0 : AHeap) (w0 : World) (past rest : List Ent) (k : Nat) (done : List Nat) (T : Trie AV) (D : List ADef) (H : AHeap) (j : J) (a : Act) (w : World) : Prop where
  split : filterB heavyE (entsOf ops) = past.reverse ++ rest
  closed : Closed ops done
  known : ∀ e ∈ entsOf ops, heavy e.o.op = true → (e.i ∈ done ↔ e ∈ past)
  rel : Rel j H w
  trel : TRel j n (eraseAll T (pend (entsOf ops) (filterB heavyE (entsOf ops)) k done)) a.tmps
  drel : DRel j D a.defers
  ext : Ext j0 H0 w0 j H w
  virt : Virt j H0.next (pend (entsOf ops) (filterB heavyE (entsOf ops)) k done) T H
  early : ∀ e ∈ entsOf ops, heavy e.o.op = false → e.i ∈ done → stage (filterB heavyE (entsOf ops)) e.m < k
  bnd : ∀ e ∈ pend (entsOf ops) (filterB heavyE (entsOf ops)) k done, ∀ d, e.o.dst = some d → d < n

theorem heavies_nodup (ops : Array Oper) : (filterB heavyE (entsOf ops)).Nodup := by
  refine List.Pairwise.imp (R := fun a b : Ent => a.i < b.i) ?_ (List.Pairwise.sublist (filterB_sub _ _) ents_lt)
  intro a b h hh
  rw [hh] at h
  exact Nat.lt_irrefl _ h

section
variable {h : Ent} {ops : Array Oper} {n : Nat} {j0 : J} {H0 : AHeap} {w0 : World} {past rest : List Ent} {k : Nat} {done : List Nat} {T : Trie AV} {D : List ADef} {a : Act}

theorem DInv.heavy_done (I : DInv ops n j0 H0 w0 past rest k done T D H j a w) {h : Ent} (hh : h ∈ filterB heavyE (entsOf ops)) : h.i ∈ done ↔ h ∈ past := by
  obtain ⟨h1, h2⟩ := mem_filterB.1 hh
  exact I.known h h1 h2

/-- one that may come now belongs to a stage that has begun -/
theorem DInv.stage_le (I : DInv ops n j0 H0 w0 past rest k done T D H j a w) (ok : DrawOk ops) {e : Ent} (he : e ∈ entsOf ops) (hed : ∀ x ∈ edgesOn e.o, x ∈ done) : stage (filterB heavyE (entsOf ops)) e.m ≤ past.length := by
  refine Go.Ah.stage_le _ _ _ (heavies_nodup ops) fun h hh hb => ?_
  obtain ⟨h1, h2⟩ := entsOf_mem he
  rw [h2] at hb
  have := before_done ok.back I.closed e.i e.o h1 hed h.i hb
  exact (I.heavy_done hh).1 this

/-- the light ones of a stage -/
theorem DInv.enter (I : DInv ops n j0 H0 w0 past rest past.length done T D H j a w) (ok : DrawOk ops) {T' : Trie AV} {H' : AHeap}
    (hr : runLights P n ops (filterB (fun e => lightE e && Nat.beq (stage (filterB heavyE (entsOf ops)) e.m) past.length) (entsOf ops)) T H = some (T', H')) :
    DInv ops n j0 H0 w0 past rest (past.length + 1) done T' D H' j a w := by
  obtain ⟨G, hG⟩ : ∃ G, filterB (fun e => lightE e && Nat.beq (stage (filterB heavyE (entsOf ops)) e.m) past.length) (entsOf ops) = G := ⟨_, rfl⟩
  rw [hG] at hr
  have memG : ∀ e, e ∈ G ↔ e ∈ entsOf ops ∧ heavy e.o.op = false ∧ stage (filterB heavyE (entsOf ops)) e.m = past.length := fun e => by
    rw [← hG, mem_filterB]
    simp only [lightE, Bool.and_eq_true, Bool.not_eq_true']
    constructor
    · rintro ⟨h1, h2, h3⟩; exact ⟨h1, h2, Nat.eq_of_beq_eq_true h3⟩
    · rintro ⟨h1, h2, h3⟩; exact ⟨h1, h2, by rw [h3]; exact Nat.beq_refl _⟩
  have apart : ∀ e ∈ entsOf ops, heavy e.o.op = false → ∀ e' ∈ entsOf ops, e' = e ∨ e'.o.dst ≠ e.o.dst := fun e he hl e' he' => by
    obtain ⟨d, hd, hall⟩ := ok.own e he hl
    rcases hall e' he' with hi | hi
    · exact .inl (entsOf_inj he' he hi)
    · exact .inr (by rw [hd]; exact hi)
  obtain ⟨q1, q2, ⟨S', q3, q4, q5⟩, q6, q7⟩ := runLights_virt G T T' H H' hr I.rel I.ext _ I.virt (fun e he e' he' => apart e ((memG e).1 he).1 ((memG e).1 he).2.1 e' (mem_pend.1 he').1)
    (fun e he e' he' => apart e ((memG e).1 he).1 ((memG e).1 he).2.1 e' ((memG e').1 he').1)
  have hsplit : ∀ e ∈ pend (entsOf ops) (filterB heavyE (entsOf ops)) (past.length + 1) done, e ∈ pend (entsOf ops) (filterB heavyE (entsOf ops)) past.length done ∨ e ∈ G := fun e he => by
    obtain ⟨h1, h2, h3, h4⟩ := mem_pend.1 he
    by_cases hlt : stage (filterB heavyE (entsOf ops)) e.m < past.length
    · exact .inl (mem_pend.2 ⟨h1, h2, hlt, h4⟩)
    · exact .inr ((memG e).2 ⟨h1, h2, by omega⟩)
  have hGp : ∀ e ∈ G, e ∈ pend (entsOf ops) (filterB heavyE (entsOf ops)) (past.length + 1) done := fun e he => by
    obtain ⟨h1, h2, h3⟩ := (memG e).1 he
    exact mem_pend.2 ⟨h1, h2, by omega, fun hd => by have := I.early e h1 h2 hd; omega⟩
  refine ⟨I.split, I.closed, I.known, q1, ⟨I.trel.size, fun t u hu => ?_⟩, I.drel, q2, fun e he => ?_, fun e h1 h2 h3 => by have := I.early e h1 h2 h3; omega, fun e he d hd => ?_⟩
  · obtain ⟨h1, h2⟩ := (get_eraseAll _ _ _ _).1 hu
    refine I.trel.get t u ((get_eraseAll _ _ _ _).2 ⟨?_, fun e he => ?_⟩)
    · rw [← q6 t fun e he => h2 e (hGp e he)]; exact h1
    · refine h2 e ?_
      obtain ⟨h1, h2, h3, h4⟩ := mem_pend.1 he
      exact mem_pend.2 ⟨h1, h2, by omega, h4⟩
  · rcases hsplit e he with hh | hh
    · exact q3 e (q4 e hh)
    · exact q3 e (q5 e hh)
  · rcases hsplit e he with hh | hh
    · exact I.bnd e hh d hd
    · exact q7 e hh d hd

/-- what an operation reads is there -/
theorem DInv.agree (I : DInv ops n j0 H0 w0 past rest k done T D H j a w) (ok : DrawOk ops) {e : Ent} (he : e ∈ entsOf ops) (hed : ∀ x ∈ edgesOn e.o, x ∈ done) :
    (∀ t ∈ readsE e, (eraseAll T (pend (entsOf ops) (filterB heavyE (entsOf ops)) k done)).get t = T.get t) ∧ aguard ops (eraseAll T (pend (entsOf ops) (filterB heavyE (entsOf ops)) k done)) e.o = aguard ops T e.o := by
  obtain ⟨e1, e2⟩ := entsOf_mem he
  have hbef : ∀ y, hasBit e.m y = true → y ∈ done := fun y hy => before_done ok.back I.closed e.i e.o e1 hed y (by rw [← e2]; exact hy)
  refine ⟨fun t ht => get_eraseAll_eq fun l hl hd => ?_, aguard_agree fun g b o' d hg ho hd => get_eraseAll_eq fun l hl hld => ?_⟩
  · obtain ⟨h1, h2, h3, h4⟩ := mem_pend.1 hl
    exact h4 (hbef _ (ok.reads e he t ht l h1 h2 hd))
  · obtain ⟨h1, h2, h3, h4⟩ := mem_pend.1 hl
    obtain ⟨g1, g2⟩ := ok.guard e he g b hg
    obtain ⟨eg, m1, m2, m3⟩ := entsOf_of ho
    obtain ⟨d', r1, r2⟩ := ok.own l h1 h2
    rw [hld] at r1; cases r1
    rcases r2 eg m1 with hi | hi
    · rw [← hi, m2] at h4
      exact h4 (hbef _ g1)
    · exact hi (by rw [m3]; exact hd)

theorem closed_cons {ops : Array Oper} {done : List Nat} (h : Closed ops done) {i : Nat} {o : Oper} (ho : ops[i]? = some o) (hed : ∀ x ∈ edgesOn o, x ∈ done) : Closed ops (i :: done) := by
  intro x hx o' ho' k hk
  rcases List.mem_cons.1 hx with rfl | hx
  · rw [ho] at ho'; cases ho'
    exact List.mem_cons_of_mem _ (hed k hk)
  · exact List.mem_cons_of_mem _ (h x hx o' ho' k hk)

theorem distinct_ne {T : Trie AV} : ∀ {l : List Ent}, distinct T l = true → ∀ {x y : Ent}, x ∈ l → y ∈ l → x ≠ y → ∀ {a b : Nat}, madeId T x = some a → madeId T y = some b → a ≠ b
  | [], _, x, y, hx, _, _, _, _, _, _ => by cases hx
  | e :: l, h, x, y, hx, hy, hne, a, b, ha, hb => by
    simp only [distinct, Bool.and_eq_true] at h
    obtain ⟨h1, h2⟩ := h
    have one : ∀ {y : Ent} {a b : Nat}, y ∈ l → madeId T e = some a → madeId T y = some b → a ≠ b := by
      intro y a b hy ha hb hab
      rw [ha] at h1
      simp only at h1
      have := allB_all h1 y hy
      rw [hb] at this
      simp only [Bool.not_eq_true'] at this
      rw [hab, Nat.beq_refl] at this; cases this
    rcases List.mem_cons.1 hx with rfl | hx'
    · rcases List.mem_cons.1 hy with rfl | hy'
      · exact absurd rfl hne
      · exact one hy' ha hb
    · rcases List.mem_cons.1 hy with rfl | hy'
      · exact fun hab => one hx' hb ha hab.symm
      · exact distinct_ne h2 hx' hy' hne ha hb

/-- a light one comes -/
theorem DInv.small (I : DInv ops n j0 H0 w0 past rest (past.length + 1) done T D H j a w) (ok : DrawOk ops) {e : Ent} (he : e ∈ entsOf ops) (hl : heavy e.o.op = false) (hn : e.i ∉ done) (hed : ∀ x ∈ edgesOn e.o, x ∈ done)
    (hst : stageOk P ops (filterB (mayWait (filterB heavyE (entsOf ops)) past) (entsOf ops)) T H = true) :
    (Region.wanted e.o (yielded ops a.tmps) = false ∧ DInv ops n j0 H0 w0 past rest (past.length + 1) (e.i :: done) T D H j (a.put e.o.dst undef) w) ∨
    (Region.wanted e.o (yielded ops a.tmps) = true ∧ ∃ v' w' j', (execOp a.eval e.o).run P w = .ok (.value v') w' ∧ DInv ops n j0 H0 w0 past rest (past.length + 1) (e.i :: done) T D H j' (a.put e.o.dst v') w') := by
  obtain ⟨e1, e2⟩ := entsOf_mem he
  obtain ⟨ag1, ag2⟩ := I.agree ok he hed
  have hstage := I.stage_le ok he hed
  have hpe : e ∈ pend (entsOf ops) (filterB heavyE (entsOf ops)) (past.length + 1) done := mem_pend.2 ⟨he, hl, by omega, hn⟩
  -- who is still to come may wait
  have waits : ∀ x ∈ pend (entsOf ops) (filterB heavyE (entsOf ops)) (past.length + 1) done, x ∈ filterB (mayWait (filterB heavyE (entsOf ops)) past) (entsOf ops) := fun x hx => by
    obtain ⟨h1, h2, h3, h4⟩ := mem_pend.1 hx
    refine mem_filterB.2 ⟨h1, ?_⟩
    unfold mayWait
    simp only [lightE, Bool.and_eq_true, Bool.not_eq_true']
    refine ⟨h2, Nat.ble_eq_true_of_le (by omega), anyB_false fun h hh => ?_⟩
    cases hb : hasBit h.m x.i with
    | false => rfl
    | true =>
      have hhs : h ∈ filterB heavyE (entsOf ops) := by rw [I.split]; simp [hh]
      have hhd := (I.heavy_done hhs).2 hh
      obtain ⟨g1, g2⟩ := entsOf_mem (mem_filterB.1 hhs).1
      exact absurd (before_done ok.back I.closed h.i h.o g1 (I.closed h.i hhd h.o g1) x.i (by rw [← g2]; exact hb)) h4
  simp only [stageOk, Bool.and_eq_true] at hst
  obtain ⟨hst1, hst2⟩ := hst
  have hse := allB_all hst1 e (waits e hpe)
  -- the others behind it
  have others : ∀ x ∈ pend (entsOf ops) (filterB heavyE (entsOf ops)) (past.length + 1) (e.i :: done), x ∈ pend (entsOf ops) (filterB heavyE (entsOf ops)) (past.length + 1) done ∧ x ≠ e := fun x hx => by
    obtain ⟨h1, h2, h3, h4⟩ := mem_pend.1 hx
    simp only [List.mem_cons, not_or] at h4
    exact ⟨mem_pend.2 ⟨h1, h2, h3, h4.2⟩, fun hh => h4.1 (by rw [hh])⟩
  have known' : ∀ x ∈ entsOf ops, heavy x.o.op = true → (x.i ∈ e.i :: done ↔ x ∈ past) := fun x hx hxh => by
    rw [← I.known x hx hxh]
    simp only [List.mem_cons]
    refine ⟨fun h => h.resolve_left fun hh => ?_, .inr⟩
    rw [entsOf_inj hx he hh, hl] at hxh; cases hxh
  have early' : ∀ x ∈ entsOf ops, heavy x.o.op = false → x.i ∈ e.i :: done → stage (filterB heavyE (entsOf ops)) x.m < past.length + 1 := fun x hx hxl hxd => by
    rcases List.mem_cons.1 hxd with hh | hh
    · rw [entsOf_inj hx he hh]; omega
    · exact I.early x hx hxl hh
  unfold stable at hse
  split at hse
  · cases hse
  rename_i d hd
  split at hse
  · cases hse
  rename_i v hv
  -- its value is put
  have fin : ∀ (j' : J) (x : Value) (w' : World), VRel j' v x → Rel j' H w' → j.le j' → Ext j0 H0 w0 j' H w' → (∀ y ∈ entsOf ops, y ≠ e → ∀ dy vy id, y ∈ pend (entsOf ops) (filterB heavyE (entsOf ops)) (past.length + 1) done → makes y.o.op = true → y.o.dst = some dy → T.get dy = some vy → shId vy = some id → j' id = none) →
      DInv ops n j0 H0 w0 past rest (past.length + 1) (e.i :: done) T D H j' (a.put e.o.dst x) w' := by
    intro j' x w' hvx hrel hle hext hnone
    refine ⟨I.split, closed_cons I.closed e1 hed, known', hrel, ?_, by rw [Act.put_defers]; exact I.drel.mono hle, hext, fun y hy hm dy vy id h1 h2 h3 => ?_, early', fun y hy => I.bnd y (others y hy).1⟩
    · rw [hd]
      refine TRel.put_cleared (I.trel.mono hle) (I.bnd e hpe d hd) hvx (fun t => ?_) (fun y hy => ?_)
      · split
        · rename_i ht; rw [ht, hv]
        · rfl
      · by_cases hye : y = e
        · exact .inl (by rw [hye, hd])
        · refine .inr ?_
          obtain ⟨h1, h2, h3, h4⟩ := mem_pend.1 hy
          refine mem_pend.2 ⟨h1, h2, h3, ?_⟩
          simp only [List.mem_cons, not_or]
          exact ⟨fun hh => hye (entsOf_inj h1 he hh), h4⟩
    · obtain ⟨y1, y2⟩ := others y hy
      obtain ⟨_, q2, q3⟩ := I.virt y y1 hm dy vy id h1 h2 h3
      exact ⟨hnone y (mem_pend.1 y1).1 y2 dy vy id y1 hm h1 h2 h3, q2, q3⟩
  split at hse
  · cases hse
  · rename_i hg
    have hv0 := AV.beq_eq _ _ hse
    refine .inl ⟨aguard_sound I.trel (by rw [ag2]; exact hg), ?_⟩
    exact fin j undef w (by rw [hv0]; exact undef_rel) I.rel (J.le_refl _) I.ext fun y h1 h2 dy vy id h3 h4 h5 h6 h7 => (I.virt y h3 h4 dy vy id h5 h6 h7).1
  · rename_i hg
    refine .inr ⟨aguard_sound I.trel (by rw [ag2]; exact hg), ?_⟩
    have hag := aeval_agree (H := H) (T := eraseAll T (pend (entsOf ops) (filterB heavyE (entsOf ops)) (past.length + 1) done)) (T' := T) (e := e) ag1
    split at hse
    · rename_i hmk
      split at hse
      · rename_i sh ob ham
        split at hse
        · rename_i id hid
          simp only [Bool.and_eq_true] at hse
          obtain ⟨s1, s2, s3⟩ := hse
          have hv0 := AV.beq_eq _ _ s1
          split at s3
          · rename_i ob' hob
            have hob' := AObj.beq_eq s3
            subst hob'
            obtain ⟨q1, q2, q3⟩ := I.virt e hpe hmk d v id hd hv hid
            rw [← amake_congr hag] at ham
            obtain ⟨v', w', hrun, hmade⟩ := amake_run I.rel I.trel ham
            obtain ⟨ee, r1, r2, r3, r4⟩ := Rel.realize I.rel hob q1 (Nat.le_of_ble_eq_true s2) hmade
            refine ⟨v', w', j.set id ee, hrun, fin _ _ _ (by rw [hv0]; exact r2) r1 r3 (r4 j0 H0 w0 I.ext q2) ?_⟩
            intro y h1 h2 dy vy idy h3 h4 h5 h6 h7
            have hne : id ≠ idy := distinct_ne hst2 (waits e hpe) (waits y h3) (Ne.symm h2) (by simp only [madeId, hmk, hd, hv, hid]) (by simp only [madeId, h4, h5, h6, h7])
            simp only [J.set]
            rw [if_neg (Ne.symm hne)]
            exact (I.virt y h3 h4 dy vy idy h5 h6 h7).1
          · cases s3
        · cases hse
      · cases hse
    · rename_i hmk
      split at hse
      · rename_i v1 hal
        have hv0 := AV.beq_eq _ _ hse
        subst hv0
        rw [← alight_congr hag] at hal
        have hs := aexec_sound (P := P) I.rel I.trel e.o
        rw [alight_aexec hal] at hs
        obtain ⟨v', w', j', g1, g2, g3, g4⟩ := hs
        refine ⟨v', w', j', g1, fin _ _ _ g2 g3 g4.le (I.ext.trans g4) fun y h1 h2 dy vy id h3 h4 h5 h6 h7 => ?_⟩
        obtain ⟨q1, q2, q3⟩ := I.virt y h3 h4 dy vy id h5 h6 h7
        exact (g4.virt id q3 q1).1
      · cases hse

/-- behind a heavy one -/
theorem DInv.big (I : DInv ops n j0 H0 w0 past (h :: rest) k done T D H j a w) (ok : DrawOk ops) (hed : ∀ x ∈ edgesOn h.o, x ∈ done)
    {j1 : J} {H1 : AHeap} {w1 : World} {D1 : List ADef} {a1 : Act} (hrel : Rel j1 H1 w1) (hext : Ext j H w j1 H1 w1) (hd1 : DRel j1 D1 a1.defers) (ht1 : a1.tmps = a.tmps)
    {v : AV} {x : Value} (hvx : VRel j1 v x) {kf : Trie AV → Prop} (hk : tput botP n T h.o.dst v kf) :
    ∃ T1, kf T1 ∧ DInv ops n j0 H0 w0 (h :: past) rest k (h.i :: done) T1 D1 H1 j1 (a1.put h.o.dst x) w1 := by
  have hhs : h ∈ filterB heavyE (entsOf ops) := by rw [I.split]; simp
  obtain ⟨hh1, hh2⟩ := mem_filterB.1 hhs
  obtain ⟨e1, e2⟩ := entsOf_mem hh1
  have hh2 : heavy h.o.op = true := hh2
  have hpend : ∀ e, e ∈ pend (entsOf ops) (filterB heavyE (entsOf ops)) k (h.i :: done) ↔ e ∈ pend (entsOf ops) (filterB heavyE (entsOf ops)) k done := fun e => by
    rw [mem_pend, mem_pend]
    constructor
    · rintro ⟨q1, q2, q3, q4⟩; exact ⟨q1, q2, q3, fun hh => q4 (by simp [hh])⟩
    · rintro ⟨q1, q2, q3, q4⟩
      refine ⟨q1, q2, q3, ?_⟩
      simp only [List.mem_cons, not_or]
      exact ⟨fun hh => (by rw [entsOf_inj q1 hh1 hh, hh2] at q2; cases q2), q4⟩
  have hown : ∀ d, h.o.dst = some d → ∀ e ∈ pend (entsOf ops) (filterB heavyE (entsOf ops)) k done, e.o.dst ≠ some d := fun d hd e he hed => by
    obtain ⟨q1, q2, q3, q4⟩ := mem_pend.1 he
    obtain ⟨d', r1, r2⟩ := ok.own e q1 q2
    rw [hed] at r1; cases r1
    rcases r2 h hh1 with hi | hi
    · rw [entsOf_inj hh1 q1 hi, q2] at hh2; cases hh2
    · exact hi hd
  have main : ∀ T1 : Trie AV, (∀ e ∈ pend (entsOf ops) (filterB heavyE (entsOf ops)) k done, ∀ d, e.o.dst = some d → T1.get d = T.get d) → TRel j1 n (eraseAll T1 (pend (entsOf ops) (filterB heavyE (entsOf ops)) k done)) (a1.put h.o.dst x).tmps →
      DInv ops n j0 H0 w0 (h :: past) rest k (h.i :: done) T1 D1 H1 j1 (a1.put h.o.dst x) w1 := by
    intro T1 hT ht
    refine ⟨by rw [I.split]; simp, closed_cons I.closed e1 hed, fun e he heh => ?_, hrel, ⟨ht.size, fun t u hu => ?_⟩, by rw [Act.put_defers]; exact hd1, I.ext.trans hext, fun e he hm d v' id h1 h2 h3 => ?_, fun e he hel hei => ?_, fun e he => I.bnd e ((hpend e).1 he)⟩
    · have := I.known e he heh
      simp only [List.mem_cons]
      rw [this]
      constructor
      · rintro (hh | hh)
        · exact .inl (entsOf_inj he hh1 hh)
        · exact .inr hh
      · rintro (hh | hh)
        · exact .inl (by rw [hh])
        · exact .inr hh
    · obtain ⟨q1, q2⟩ := (get_eraseAll _ _ _ _).1 hu
      exact ht.get t u ((get_eraseAll _ _ _ _).2 ⟨q1, fun e he => q2 e ((hpend e).2 he)⟩)
    · have he' := (hpend e).1 he
      rw [hT e he' d h1] at h2
      obtain ⟨q1, q2, q3⟩ := I.virt e he' hm d v' id h1 h2 h3
      exact ⟨(hext.virt id q3 q1).1, q2, Nat.lt_of_lt_of_le q3 hext.next⟩
    · rcases List.mem_cons.1 hei with hh | hh
      · rw [entsOf_inj he hh1 hh, hh2] at hel; cases hel
      · exact I.early e he hel hh
  have htr : TRel j1 n (eraseAll T (pend (entsOf ops) (filterB heavyE (entsOf ops)) k done)) a1.tmps := by rw [ht1]; exact I.trel.mono hext.le
  rcases tput_cases hk with ⟨hd, hk⟩ | ⟨d, hd, hdn, hk⟩
  · refine ⟨T, hk, main T (fun _ _ _ _ => rfl) ?_⟩
    rw [hd]; exact htr
  · refine ⟨_, hk, main _ (fun e he d' hd' => ?_) ?_⟩
    · rw [Trie.get_put, if_neg]
      intro hh
      exact hown d hd e he (by rw [hd', hh])
    · rw [hd]
      exact TRel.put_cleared htr hdn hvx (fun t => Trie.get_put _ _ _ _) (fun e he => .inr he)

/-- what is asked behind the light ones of a stage -/
def evMid (P : Program) (call : CallK) (n : Nat) (ops : Array Oper) (K : Kont) (past rest : List Ent) (s : St) : Prop :=
  match rest with
  | [] => K .normal s
  | h :: rest => match aguard ops s.T h.o with
    | none => False
    | some false => tput botP n s.T h.o.dst undefA fun T => evStages botP P call n ops (entsOf ops) (filterB heavyE (entsOf ops)) K (h :: past) rest ⟨T, s.D, s.H⟩
    | some true => match aexec P s.H s.T h.o.op with
      | .val v H => tput botP n s.T h.o.dst v fun T => evStages botP P call n ops (entsOf ops) (filterB heavyE (entsOf ops)) K (h :: past) rest ⟨T, s.D, H⟩
      | .skip H => tput botP n s.T h.o.dst undefA fun T => evStages botP P call n ops (entsOf ops) (filterB heavyE (entsOf ops)) K (h :: past) rest ⟨T, s.D, H⟩
      | .call f args => call f args s.H fun e H => match e with
        | .ret v => tput botP n s.T h.o.dst v fun T => evStages botP P call n ops (entsOf ops) (filterB heavyE (entsOf ops)) K (h :: past) rest ⟨T, s.D, H⟩
        | .panic c => K (.panic c) ⟨eraseAll s.T (filterB lightE (entsOf ops)), s.D, H⟩
      | .defer f args cap => tput botP n s.T h.o.dst undefA fun T => evStages botP P call n ops (entsOf ops) (filterB heavyE (entsOf ops)) K (h :: past) rest ⟨T, ⟨f, args, cap⟩ :: s.D, s.H⟩
      | .panic v => K (.panic [(v, false)]) ⟨eraseAll s.T (filterB lightE (entsOf ops)), s.D, s.H⟩
      | .recover => False
      | .stuck => False

theorem evStages_mid {call : CallK} {K : Kont} {s : St} (h : evStages botP P call n ops (entsOf ops) (filterB heavyE (entsOf ops)) K past rest s) :
    ∃ T H, runLights P n ops (filterB (fun e => lightE e && Nat.beq (stage (filterB heavyE (entsOf ops)) e.m) past.length) (entsOf ops)) s.T s.H = some (T, H) ∧
      stageOk P ops (filterB (mayWait (filterB heavyE (entsOf ops)) past) (entsOf ops)) T H = true ∧ evMid P call n ops K past rest ⟨T, s.D, H⟩ := by
  unfold evStages at h
  split at h
  · exact h.elim
  · rename_i T H hr
    split at h
    · exact h.elim
    · rename_i hs
      exact ⟨T, H, hr, hs, h⟩

theorem draw_mid {call : CallK} (hcall : ∀ f args H Q, call f args H Q → ACalls P f args H Q) (ok : DrawOk ops) {K : Kont} : ∀ (L done : List Nat) (past rest : List Ent) (s : St) (j : J) (a : Act) (w : World),
    Sched ops done L → DInv ops n j0 H0 w0 past rest (past.length + 1) done s.T s.D s.H j a w → stageOk P ops (filterB (mayWait (filterB heavyE (entsOf ops)) past) (entsOf ops)) s.T s.H = true →
    evMid P call n ops K past rest s → wpOps P ops (Post n K j0 H0 w0) L a w
  | [], done, past, rest, s, j, a, w, hS, I, hst, hm => by
    cases hS with
    | nil hall =>
      have hrest : rest = [] := by
        cases rest with
        | nil => rfl
        | cons h rest =>
          exfalso
          have hhs : h ∈ filterB heavyE (entsOf ops) := by rw [I.split]; simp
          have hlt := (Array.getElem?_eq_some_iff.1 (entsOf_mem (mem_filterB.1 hhs).1).1).1
          have hp := (I.heavy_done hhs).1 (hall _ hlt)
          have hn := heavies_nodup ops
          rw [I.split] at hn
          exact (List.nodup_append.1 hn).2.2 h (by simp [hp]) h (by simp) rfl
      subst hrest
      have hp : pend (entsOf ops) (filterB heavyE (entsOf ops)) (past.length + 1) done = [] := by
        cases hpe : pend (entsOf ops) (filterB heavyE (entsOf ops)) (past.length + 1) done with
        | nil => rfl
        | cons e l =>
          exfalso
          obtain ⟨q1, q2, q3, q4⟩ := mem_pend.1 (hpe ▸ List.mem_cons_self : e ∈ pend (entsOf ops) (filterB heavyE (entsOf ops)) (past.length + 1) done)
          exact q4 (hall _ (Array.getElem?_eq_some_iff.1 (entsOf_mem q1).1).1)
      have ht := I.trel
      rw [hp] at ht
      exact ⟨.normal, s, j, hm, I.rel, .normal, ht, I.drel, I.ext⟩
  | i :: L, done, past, rest, s, j, a, w, hS, I, hst, hm => by
    cases hS with
    | cons ho hn he hS =>
      rename_i o
      obtain ⟨e, m1, rfl, rfl⟩ := entsOf_of ho
      simp only [wpOps, ho]
      cases hh : heavy e.o.op with
      | false =>
        rcases I.small ok m1 hh hn he hst with ⟨h1, I'⟩ | ⟨h1, v', w', j', h2, I'⟩
        · rw [if_neg (by rw [h1]; simp)]
          exact draw_mid hcall ok L _ past rest s j _ w hS I' hst hm
        · rw [if_pos h1]
          refine .inl ?_
          unfold Oper.wp
          rw [h2, Oper.upon_value]
          exact draw_mid hcall ok L _ past rest s j' _ w' hS I' hst hm
      | true =>
        have hes : e ∈ filterB heavyE (entsOf ops) := mem_filterB.2 ⟨m1, hh⟩
        have hnp : e ∉ past := fun h => hn ((I.heavy_done hes).2 h)
        have her : e ∈ rest := by
          rw [I.split] at hes
          simp only [List.mem_append, List.mem_reverse] at hes
          exact hes.resolve_left hnp
        obtain ⟨h, rest', rfl⟩ : ∃ h rest', rest = h :: rest' := by
          cases rest with
          | nil => cases her
          | cons h rest => exact ⟨h, rest, rfl⟩
        have heq : e = h := by
          rcases List.mem_cons.1 her with rfl | her
          · rfl
          · exfalso
            have hp := ok.linked
            rw [I.split] at hp
            have hb := (List.pairwise_cons.1 (List.pairwise_append.1 hp).2.1).1 e her
            obtain ⟨g1, g2⟩ := entsOf_mem m1
            have hhs : h ∈ filterB heavyE (entsOf ops) := by rw [I.split]; simp
            have hd := before_done ok.back I.closed e.i e.o g1 he h.i (by rw [← g2]; exact hb)
            have hpp := (I.heavy_done hhs).1 hd
            have hn := heavies_nodup ops
            rw [I.split] at hn
            exact (List.nodup_append.1 hn).2.2 h (by simp [hpp]) h (by simp) rfl
        subst heq
        obtain ⟨ag1, ag2⟩ := I.agree ok m1 he
        have hag := aeval_agree (H := s.H) (T := eraseAll s.T (pend (entsOf ops) (filterB heavyE (entsOf ops)) (past.length + 1) done)) (T' := s.T) (e := e) ag1
        have hex := aexec_congr (P := P) hag
        -- the next stage
        have next : ∀ (j1 : J) (a1 : Act) (w1 : World) (s1 : St), evStages botP P call n ops (entsOf ops) (filterB heavyE (entsOf ops)) K (e :: past) rest' s1 → DInv ops n j0 H0 w0 (e :: past) rest' (past.length + 1) (e.i :: done) s1.T s1.D s1.H j1 a1 w1 →
            wpOps P ops (Post n K j0 H0 w0) L a1 w1 := by
          intro j1 a1 w1 s1 hev I1
          obtain ⟨T2, H2, r1, r2, r3⟩ := evStages_mid hev
          have I2 := DInv.enter (past := e :: past) I1 ok r1
          exact draw_mid hcall ok L _ (e :: past) rest' ⟨T2, s1.D, H2⟩ j1 a1 w1 hS I2 r2 r3
        have clear : ∀ {j1 : J}, j.le j1 → TRel j1 n (eraseAll s.T (filterB lightE (entsOf ops))) a.tmps := fun hle => by
          refine ⟨I.trel.size, fun t u hu => (I.trel.get t u ?_).mono hle⟩
          obtain ⟨q1, q2⟩ := (get_eraseAll _ _ _ _).1 hu
          refine (get_eraseAll _ _ _ _).2 ⟨q1, fun x hx => q2 x (mem_filterB.2 ⟨(mem_pend.1 hx).1, ?_⟩)⟩
          simp [lightE, (mem_pend.1 hx).2.1]
        simp only [evMid] at hm
        split at hm
        · exact hm.elim
        · rename_i hg
          rw [if_neg (by rw [aguard_sound I.trel (by rw [ag2]; exact hg)]; simp)]
          obtain ⟨T1, k1, I1⟩ := I.big ok he I.rel (Ext.refl _ _ _) I.drel rfl undef_rel hm
          exact next _ _ _ _ k1 I1
        · rename_i hg
          rw [if_pos (aguard_sound I.trel (by rw [ag2]; exact hg))]
          refine .inl ?_
          unfold Oper.wp
          have hs := aexec_sound (P := P) I.rel I.trel e.o
          rw [hex] at hs
          split at hm
          · rename_i v H' hr
            rw [hr] at hs
            obtain ⟨v', w', j', g1, g2, g3, g4⟩ := hs
            rw [g1, Oper.upon_value]
            obtain ⟨T1, k1, I1⟩ := I.big ok he g3 g4 (I.drel.mono g4.le) rfl g2 hm
            exact next _ _ _ _ k1 I1
          · rename_i H' hr
            rw [hr] at hs
            obtain ⟨w', j', g1, g3, g4⟩ := hs
            rw [g1, Oper.upon_skip]
            obtain ⟨T1, k1, I1⟩ := I.big ok he g3 g4 (I.drel.mono g4.le) rfl undef_rel hm
            exact next _ _ _ _ k1 I1
          · rename_i f args hr
            rw [hr] at hs
            obtain ⟨args', g1, g2⟩ := hs
            rw [g1, Oper.upon_enter]
            refine (hcall _ _ _ _ hm j w args' I.rel g2).mono ?_
            rintro e' w' ⟨o1, H', j', q, r1, r2, r3⟩
            cases r2 with
            | ret hv =>
              obtain ⟨T1, k1, I1⟩ := I.big ok he r1 r3 (I.drel.mono r3.le) rfl hv q
              exact next _ _ _ _ k1 I1
            | panic hc => exact ⟨_, ⟨_, s.D, H'⟩, j', q, r1, .panic hc, clear r3.le, I.drel.mono r3.le, I.ext.trans r3⟩
          · rename_i f args cap hr
            rw [hr] at hs
            obtain ⟨args', cap', g1, g2, g3⟩ := hs
            rw [g1, Oper.upon_defer]
            obtain ⟨T1, k1, I1⟩ := I.big ok he (a1 := { a with defers := { target := .fn (.func f) cap'.toArray, args := args'.toArray } :: a.defers }) (D1 := ⟨f, args, cap⟩ :: s.D) I.rel (Ext.refl _ _ _) (.cons g2 g3 I.drel) rfl undef_rel hm
            exact next _ _ _ _ k1 I1
          · rename_i v hr
            rw [hr] at hs
            obtain ⟨v', g1, g2⟩ := hs
            rw [g1, Oper.upon_panic]
            exact ⟨_, ⟨_, s.D, s.H⟩, j, hm, I.rel, .panic (.cons g2 .nil), clear (J.le_refl _), I.drel, I.ext⟩
          · exact hm.elim
          · exact hm.elim
end

/-- a world in which an order has been drawn -/
theorem Rel.drawn (h : Rel j H w) (d : Nat) : Rel j H { w with drawn := d } :=
  ⟨h.gnn, h.glob, h.bound, h.low, fun b o e hb he => by
    have := h.objs b o e hb he
    cases o <;> exact this, h.apart, h.fixed, h.ends⟩
theorem Ext.drawn (d : Nat) : Ext j H w j H { w with drawn := d } :=
  ⟨J.le_refl j, Nat.le_refl _, Nat.le_refl _, fun _ _ _ => rfl, fun _ h => .inl h, fun _ _ h => ⟨h, rfl⟩, rfl, rfl, rfl⟩

theorem A_region_draw {call : CallK} (hmix : P.follows .mixedOrders = true) (hcall : ∀ f args H Q, call f args H Q → ACalls P f args H Q) {n id : Nat} {ops : Array Oper} {K : Kont} {s : St}
    (h : evDraw botP P call n ops (entsOf ops) K s) : ACode P n (.region id ops true) K s := by
  intro j a w h1 h2 h3
  unfold evDraw at h
  split at h
  · exact h.elim
  · rename_i hok
    have ok := drawOk_ok hok
    refine wp_region_draw fun t => ?_
    rw [hmix]
    have hpend : pend (entsOf ops) (filterB heavyE (entsOf ops)) 0 [] = [] := by
      cases hpe : pend (entsOf ops) (filterB heavyE (entsOf ops)) 0 [] with
      | nil => rfl
      | cons e l =>
        obtain ⟨q1, q2, q3, q4⟩ := mem_pend.1 (hpe ▸ List.mem_cons_self : e ∈ pend (entsOf ops) (filterB heavyE (entsOf ops)) 0 [])
        exact absurd q3 (by omega)
    have I : DInv ops n j s.H w [] (filterB heavyE (entsOf ops)) 0 [] s.T s.D s.H j a { w with drawn := w.drawn + 1 } := by
      refine ⟨by simp, fun i hi => (by cases hi), fun e he hh => (by simp), h1.drawn _, ?_, h3, Ext.drawn _, fun e he => ?_, fun e he hh hd => (by cases hd), fun e he => ?_⟩
      · rw [hpend]; exact h2
      · rw [hpend] at he; cases he
      · rw [hpend] at he; cases he
    obtain ⟨T2, H2, r1, r2, r3⟩ := evStages_mid h
    have I2 := DInv.enter (past := []) I ok r1
    exact draw_mid hcall ok _ [] [] _ ⟨T2, s.D, H2⟩ j a _ (sched_schedule ops ok.back t) I2 r2 r3

end Go.Ah
