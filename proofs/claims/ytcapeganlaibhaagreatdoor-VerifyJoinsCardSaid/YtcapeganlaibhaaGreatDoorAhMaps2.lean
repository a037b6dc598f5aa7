/- Maps: entries set and taken away. -/
import Derived.Test.YtcapeganlaibhaaGreatDoorAhMaps
set_option linter.unusedVariables false
set_option linter.unusedSimpArgs false
namespace Go.Ah

variable {P : Program} {j : J} {H : AHeap} {w : World}

theorem modify_at {es : Array MapEntry} {p1 p2 : List MapEntry} {e1 : MapEntry} (h : es.toList = p1 ++ e1 :: p2) (f : MapEntry → MapEntry) : (es.modify p1.length f).toList = p1 ++ f e1 :: p2 := by
  have he : es = (p1 ++ e1 :: p2).toArray := by rw [← h]
  subst he
  apply List.ext_getElem?
  intro k
  rw [Array.getElem?_toList, Array.getElem?_modify]
  simp only [List.getElem?_toArray]
  by_cases hk : p1.length = k
  · subst hk; simp
  · rw [if_neg hk]
    rcases Nat.lt_or_ge k p1.length with hlt | hge
    · rw [List.getElem?_append_left hlt, List.getElem?_append_left hlt]
    · rw [List.getElem?_append_right hge, List.getElem?_append_right hge]
      obtain ⟨m, hm⟩ : ∃ m, k - p1.length = m + 1 := ⟨k - p1.length - 1, by omega⟩
      rw [hm]; rfl

theorem erase_at {es : Array MapEntry} {p1 p2 : List MapEntry} {e1 : MapEntry} (h : es.toList = p1 ++ e1 :: p2) : (es.eraseIdxIfInBounds p1.length).toList = p1 ++ p2 := by
  have he : es = (p1 ++ e1 :: p2).toArray := by rw [← h]
  subst he
  simp only [Array.eraseIdxIfInBounds]
  rw [dif_pos (by simp)]
  simp only [List.eraseIdx_toArray]
  rw [List.eraseIdx_append_of_length_le (Nat.le_refl _)]
  simp

theorem sameBits_refl {n : Nat} {a : AV} {x : Value} (h : VRel j a x) (ha : isScalar a = true) : Instr.sameBits n x x = true := by
  have hq : ∀ s : ByteArray, (s == s) = true := fun s => by rw [beq_toListBytes]; simp
  cases h <;> simp [isScalar] at ha <;> (cases n <;> simp [Instr.sameBits, hq])
theorem scalars_of_keqs {l m : List AV} {r : Bool} : keqs l m = some r → ∀ a ∈ l, isScalar a = true := by
  induction l generalizing m r with
  | nil => intro _ a ha; cases ha
  | cons x l ih =>
    intro h a ha
    cases m with
    | nil => simp [keqs] at h
    | cons b m =>
      simp only [keqs] at h
      split at h
      · rename_i hk
        rcases List.mem_cons.1 ha with rfl | ha
        · exact (keq1_scalar hk).1
        · exact ih h a ha
      · rename_i hk hr
        rcases List.mem_cons.1 ha with rfl | ha
        · exact (keq1_scalar hk).1
        · exact ih hr a ha
      · cases h

/-- keys that are alike are one value -/
theorem eqK_same {kt : TypeId} {a b : AV} {x y : Value} (h : eqK P kt a b = some true) (hx : VRel j a x) (hy : VRel j b y) : x = y ∧ Instr.sameBits 10000 y x = true := by
  unfold eqK at h
  split at h <;> (try (cases h; done))
  · split at h
    · have := keq1_true h; rw [this] at hx
      have e := hx.det hy rfl
      exact ⟨e, by rw [e]; exact sameBits_refl hy rfl⟩
    · cases h
  · split at h
    · have := keq1_true h; rw [this] at hx
      have e := hx.det hy rfl
      exact ⟨e, by rw [e]; exact sameBits_refl hy rfl⟩
    · cases h
  · split at h
    · have := keq1_true h; rw [this] at hx
      have e := hx.det hy rfl
      exact ⟨e, by rw [e]; exact sameBits_refl hy rfl⟩
    · cases h
  · split at h
    · split at h
      · rename_i h1 h2
        have hs := scalars_of_keqs h1
        have e := keqs_true h1
        subst e
        cases hx with
        | agg hx => cases hy with
          | agg hy =>
            have e := keqs_det h1 hx hy
            subst e
            refine ⟨rfl, ?_⟩
            simp only [Instr.sameBits]
            simp only [beq_self_eq_true, Bool.true_and, List.all_eq_true]
            intro p hp
            rename_i l0 l'
            have key : ∀ (l : List AV) (l' : List Value), VRels j l l' → (∀ a ∈ l, isScalar a = true) → ∀ p ∈ l'.zip l', Instr.sameBits 9999 p.1 p.2 = true := by
              intro l
              induction l with
              | nil => intro l' h _ p hp; cases h; cases hp
              | cons a l ih =>
                intro l' h hs p hp
                cases h with
                | cons h t =>
                  simp only [List.zip_cons_cons, List.mem_cons] at hp
                  rcases hp with rfl | hp
                  · exact sameBits_refl h (hs a (by simp))
                  · exact ih _ t (fun a ha => hs a (by simp [ha])) p hp
            exact key _ _ hx hs p (by simpa using hp)
      · cases h
      · cases h
    · cases h

theorem run_setObjMap {r : Nat} {ents : Array MapEntry} {clock : Nat} {o : Obj} (h : w.heap[r]? = some (.map ents clock)) : (setObj r o).run P w = .ok () { w with heap := w.heap.setIfInBounds r o } := by
  simp [setObj, Sem.run, h]

theorem EntRel.append : ∀ {a : List (AV × AV)} {l : List MapEntry} {b : List (AV × AV)} {m : List MapEntry}, EntRel j a l → EntRel j b m → EntRel j (a ++ b) (l ++ m)
  | [], [], _, _, _, h => h
  | [], _ :: _, _, _, h, _ => h.elim
  | (_, _) :: _, [], _, _, h, _ => h.elim
  | (_, _) :: _, _ :: _, _, _, ⟨h1, h2, h3⟩, h => ⟨h1, h2, EntRel.append h3 h⟩

def amapUpdate (P : Program) (H : AHeap) (t : TypeId) (m k x : AV) : Option AHeap :=
  match P.underlying t with
  | some (.map kt _) => match m with
    | .map (some r) => match ackey P 4 kt k with
      | true => match H.get r with
        | some (.map es) => match afind (eqK P kt k) es with
          | some (some _) => some (H.put r (.map (aset (eqK P kt k) x es)))
          | some none => some (H.put r (.map (es ++ [(k, x)])))
          | none => none
        | _ => none
      | false => none
    | _ => none
  | _ => none

/-- what is written into a map's block -/
theorem Rel.writeMap (h : Rel j H w) {r R base n : Nat} {es es' : List (AV × AV)} {ents : Array MapEntry} {clock : Nat} {l' : List MapEntry} (hg : H.get r = some (.map es)) (hj : j r = some (R, base, n)) (hR : R < w.heap.size)
    (h2 : l'.Perm ents.toList) (h3 : EntRel j es' l') (h4 : (ents.toList.map (·.born)).Nodup) (h5 : ∀ x ∈ ents.toList, x.born < clock) :
    Rel j (H.put r (.map es')) { w with heap := w.heap.setIfInBounds R (.map ents clock) } ∧ Ext j H w j (H.put r (.map es')) { w with heap := w.heap.setIfInBounds R (.map ents clock) } :=
  h.write (o' := .map es') (e := (R, base, n)) hg rfl hj rfl ⟨ents, clock, l', by simp [hR], h2, h3, h4, h5⟩

theorem amapUpdate_sound (h : Rel j H w) {t : TypeId} {m k x : AV} {m' k' x' : Value} {H' : AHeap} (hm : VRel j m m') (hk : VRel j k k') (hx : VRel j x x') (he : amapUpdate P H t m k x = some H') :
    ∃ w', (Instr.mapUpdate t m' k' x').run P w = .ok () w' ∧ Rel j H' w' ∧ Ext j H w j H' w' := by
  unfold amapUpdate at he
  split at he
  · rename_i kt e hu
    split at he
    · rename_i r
      split at he
      · rename_i hck
        have hck' := fun em => ackey_sound (w := w) em 9996 4 kt k k' hk hck
        obtain ⟨d, hd⟩ := underlying_of_ackey hck
        split at he
        · rename_i es hg
          cases hm with
          | map hj =>
            rename_i R base0 n0
            obtain ⟨ents, clock, l, h1, h2, h3, h4, h5⟩ := h.objs _ _ _ hg hj
            simp only at h1
            have hR := h.block_lt hg hj
            simp only at hR
            have hmem : ∀ e ∈ ents.toList, ∃ p ∈ es, VRel j p.1 e.key := fun e hel => by
              obtain ⟨p, hp, hr, _⟩ := h3.mem e (h2.symm.subset hel)
              exact ⟨p, hp, hr⟩
            have hpre : ∀ (fr : Option (Nat × Value)), (Instr.findKey kt k' ents.toList).run P w = .ok fr w → (Instr.mapUpdate t (.map (some R)) k' x').run P w = ((match fr with
                | some (i, _) => do
                  let key ← Instr.keyThatStays (((ents[i]?).map (·.key)).getD k') k'
                  setObj R (.map (ents.modify i fun e => { e with key, val := x' }) clock)
                | none => setObj R (.map (ents.push { key := k', val := x', born := clock }) (clock + 1)) : Sem Unit)).run P w := by
              intro fr hfr
              simp only [Instr.mapUpdate, Sem.run_bind, run_underlying hu, Result.andThen_ok, run_getObjMap h1]
              rw [hck']
              simp only [Result.andThen_ok, hfr]
              cases fr <;> rfl
            split at he
            · rename_i v hfound
              cases he
              have htold := told_of (w := w) hd hk hmem hfound
              have hrel := afind_rel (c := ceq P kt k' w) h3 (fun p hp x hx => by
                obtain ⟨b, hb⟩ := afind_all hfound p hp
                exact .inl (by rw [hb, eqK_ceq hk hx hb])) hfound
              simp only at hrel
              obtain ⟨l1, e0, l2, q1, q2, q3, q4, q5, q6, q7⟩ := hrel
              obtain ⟨p1, e1, p2, r1, r2, r3⟩ := cfind_some (c := ceq P kt k' w) ents.toList 0 ⟨e0, h2.subset (by rw [q1]; simp), q2⟩
              have h2' := h2
              rw [q1, r1] at h2'
              obtain ⟨he1, hperm⟩ := one_place h2' r2 q4 q5
              have hfk := htold.run
              rw [r3] at hfk
              simp only [Nat.zero_add] at hfk
              -- the key that stands there
              obtain ⟨p, hp, hpr, _⟩ := h3.mem e0 (by rw [q1]; simp)
              obtain ⟨b, hb⟩ := afind_all hfound p hp
              have hbt : b = true := by have := eqK_ceq (w := w) hk hpr hb; rw [q2] at this; exact this.symm
              subst hbt
              obtain ⟨hsame, hbits⟩ := eqK_same hb hk hpr
              have hget : ents[p1.length]? = some e1 := by rw [← Array.getElem?_toList, r1]; simp
              have hkey : (Instr.keyThatStays (((ents[p1.length]?).map (·.key)).getD k') k').run P w = .ok k' w := by
                rw [hget]
                simp only [Option.map_some, Option.getD_some, Instr.keyThatStays]
                rw [he1, if_pos hbits]; rfl
              have hmod : (ents.modify p1.length fun e => { e with key := k', val := x' }).toList = p1 ++ { e0 with val := x' } :: p2 := by
                rw [modify_at r1]
                congr 2
                rw [he1, hsame]
              have key := h.writeMap (ents := ents.modify p1.length fun e => { e with key := k', val := x' }) (clock := clock) (l' := l1 ++ { e0 with val := x' } :: l2) hg hj hR
                (by rw [hmod]; exact List.perm_middle.trans ((hperm.cons _).trans List.perm_middle.symm)) (q6 x x' hx)
                (by
                  rw [hmod]
                  rw [r1, he1] at h4
                  simpa using h4)
                (fun y hy => by
                  rw [hmod] at hy
                  rcases List.mem_append.1 hy with hy | hy
                  · exact h5 y (by rw [r1]; simp [hy])
                  · rcases List.mem_cons.1 hy with rfl | hy
                    · exact h5 e0 (by rw [r1, he1]; simp)
                    · exact h5 y (by rw [r1]; simp [hy]))
              refine ⟨_, ?_, key.1, key.2⟩
              rw [hpre _ hfk]
              simp only [Sem.run_bind, hkey, Result.andThen_ok]
              exact run_setObjMap h1
            · rename_i hfound
              cases he
              have htold := told_of (w := w) hd hk hmem hfound
              have hrel := afind_rel (c := ceq P kt k' w) h3 (fun p hp x hx => by
                obtain ⟨b, hb⟩ := afind_all hfound p hp
                exact .inl (by rw [hb, eqK_ceq hk hx hb])) hfound
              simp only at hrel
              have hfk := htold.run
              rw [cfind_none _ _ (fun e hel => hrel e (h2.symm.subset hel))] at hfk
              have key := h.writeMap (ents := ents.push { key := k', val := x', born := clock }) (clock := clock + 1) (l' := l ++ [{ key := k', val := x', born := clock }]) (es' := es ++ [(k, x)]) hg hj hR
                (by rw [Array.toList_push]; exact h2.append_right _) (h3.append ⟨hk, hx, trivial⟩)
                (by
                  rw [Array.toList_push, List.map_append, List.nodup_append]
                  refine ⟨h4, by simp, fun a ha b hb => ?_⟩
                  simp only [List.map_cons, List.map_nil, List.mem_singleton] at hb
                  obtain ⟨y, hy, rfl⟩ := List.mem_map.1 ha
                  have := h5 y hy
                  omega)
                (fun y hy => by
                  rw [Array.toList_push] at hy
                  rcases List.mem_append.1 hy with hy | hy
                  · have := h5 y hy; omega
                  · simp only [List.mem_singleton] at hy; subst hy; simp)
              refine ⟨_, ?_, key.1, key.2⟩
              rw [hpre _ hfk]
              exact run_setObjMap h1
            · cases he
        · cases he
      · cases he
    · cases he
  · cases he

def adelete (P : Program) (H : AHeap) (t : TypeId) (m k : AV) : Option AHeap :=
  match P.underlying t with
  | some (.map kt _) => match m with
    | .map (some r) => match ackey P 4 kt k with
      | true => match H.get r with
        | some (.map es) => match afind (eqK P kt k) es with
          | some (some _) => some (H.put r (.map (adel (eqK P kt k) es)))
          | some none => some H
          | none => none
        | _ => none
      | false => none
    | _ => none
  | _ => none

theorem adelete_sound (h : Rel j H w) {t ty : TypeId} {m k : AV} {m' k' : Value} {H' : AHeap} (hm : VRel j m m') (hk : VRel j k k') (he : adelete P H t m k = some H') {at_ : Array TypeId} (hat : at_[0]? = some t) :
    ∃ w', (Builtin.delete_ at_ ty #[m', k']).run P w = .ok (.tuple #[]) w' ∧ Rel j H' w' ∧ Ext j H w j H' w' := by
  unfold adelete at he
  split at he
  · rename_i kt e hu
    split at he
    · rename_i r
      split at he
      · rename_i hck
        have hck' := fun em => ackey_sound (w := w) em 9996 4 kt k k' hk hck
        obtain ⟨d, hd⟩ := underlying_of_ackey hck
        split at he
        · rename_i es hg
          cases hm with
          | map hj =>
            rename_i R base0 n0
            obtain ⟨ents, clock, l, h1, h2, h3, h4, h5⟩ := h.objs _ _ _ hg hj
            simp only at h1
            have hR := h.block_lt hg hj
            simp only at hR
            have hmem : ∀ e ∈ ents.toList, ∃ p ∈ es, VRel j p.1 e.key := fun e hel => by
              obtain ⟨p, hp, hr, _⟩ := h3.mem e (h2.symm.subset hel)
              exact ⟨p, hp, hr⟩
            have hpre : ∀ (fr : Option (Nat × Value)), (Instr.findKey kt k' ents.toList).run P w = .ok fr w → (Builtin.delete_ at_ ty #[.map (some R), k']).run P w = (((match fr with
                | some (i, _) => setObj R (.map (ents.eraseIdxIfInBounds i) clock)
                | none => setObj R (.map ents clock) : Sem Unit) >>= fun _ => (pure (.tuple #[]) : Sem Value))).run P w := by
              intro fr hfr
              simp only [Builtin.delete_, hat, List.getElem?_toArray, List.getElem?_cons_zero, List.getElem?_cons_succ, Sem.run_bind, run_underlying hu, Result.andThen_ok, run_getObjMap h1]
              rw [hck']
              simp only [Result.andThen_ok, hfr]
              cases fr <;> simp
            split at he
            · rename_i v hfound
              cases he
              have htold := told_of (w := w) hd hk hmem hfound
              have hrel := afind_rel (c := ceq P kt k' w) h3 (fun p hp x hx => by
                obtain ⟨b, hb⟩ := afind_all hfound p hp
                exact .inl (by rw [hb, eqK_ceq hk hx hb])) hfound
              simp only at hrel
              obtain ⟨l1, e0, l2, q1, q2, q3, q4, q5, q6, q7⟩ := hrel
              obtain ⟨p1, e1, p2, r1, r2, r3⟩ := cfind_some (c := ceq P kt k' w) ents.toList 0 ⟨e0, h2.subset (by rw [q1]; simp), q2⟩
              have h2' := h2
              rw [q1, r1] at h2'
              obtain ⟨he1, hperm⟩ := one_place h2' r2 q4 q5
              have hfk := htold.run
              rw [r3] at hfk
              simp only [Nat.zero_add] at hfk
              have hers := erase_at r1
              have key := h.writeMap (ents := ents.eraseIdxIfInBounds p1.length) (clock := clock) (l' := l1 ++ l2) hg hj hR
                (by rw [hers]; exact hperm) q7
                (by
                  rw [hers]
                  rw [r1] at h4
                  simp only [List.map_append, List.map_cons, List.nodup_append, List.nodup_cons] at h4 ⊢
                  refine ⟨h4.1, h4.2.1.2, fun a ha b hb => h4.2.2 a ha b (by simp [hb])⟩)
                (fun y hy => by
                  rw [hers] at hy
                  rcases List.mem_append.1 hy with hy | hy
                  · exact h5 y (by rw [r1]; simp [hy])
                  · exact h5 y (by rw [r1]; simp [hy]))
              refine ⟨_, ?_, key.1, key.2⟩
              rw [hpre _ hfk]
              simp only [Sem.run_bind, run_setObjMap h1, Result.andThen_ok, Sem.run_pure]
            · rename_i hfound
              cases he
              have htold := told_of (w := w) hd hk hmem hfound
              have hrel := afind_rel (c := ceq P kt k' w) h3 (fun p hp x hx => by
                obtain ⟨b, hb⟩ := afind_all hfound p hp
                exact .inl (by rw [hb, eqK_ceq hk hx hb])) hfound
              simp only at hrel
              have hfk := htold.run
              rw [cfind_none _ _ (fun e hel => hrel e (h2.symm.subset hel))] at hfk
              refine ⟨w, ?_, h, Ext.refl _ _ _⟩
              rw [hpre _ hfk]
              simp only [Sem.run_bind, run_setObjMap h1, Result.andThen_ok, Sem.run_pure, setIfInBounds_same h1]
            · cases he
        · cases he
      · cases he
    · cases he
  · cases he

end Go.Ah
