/- Reads and writes of the abstract heap, and what they say of the world's. -/
import Derived.Test.YtcapeganlaibhaaGreatDoorAhHeap
import Derived.Laws.Entries
namespace Go.Ah

variable {P : Program} {j : J} {H : AHeap} {w : World}

/-! ## types -/
def szT (P : Program) (t : TypeId) : Option Nat := (P.info? t).map (·.size)
def aggT (P : Program) (t : TypeId) : Option Bool :=
  match P.underlying t with
  | none => none
  | some (.struct _) => some true
  | some (.array _ _) => some true
  | some _ => some false

theorem run_typeInfoA {t : TypeId} {i : TypeInfo} (h : P.info? t = some i) (w : World) : (typeInfo t).run P w = .ok i w := by
  simp [typeInfo, h]
theorem run_sizeOfA {t : TypeId} {n : Nat} (h : szT P t = some n) (w : World) : (sizeOf t).run P w = .ok n w := by
  unfold szT at h
  cases hi : P.info? t with
  | none => rw [hi] at h; cases h
  | some i => rw [hi] at h; cases h; simp [sizeOf, run_typeInfoA hi]
theorem run_isAggA {t : TypeId} {b : Bool} (h : aggT P t = some b) (w : World) : (isAgg t).run P w = .ok b w := by
  unfold aggT at h
  cases hu : P.underlying t with
  | none => rw [hu] at h; cases h
  | some d =>
    rw [hu] at h
    simp only [isAgg, Sem.run_bind, run_underlying hu, Result.andThen_ok]
    cases d <;> simp_all

/-! ## values and their cells -/
def AV.cells? : AV → Option (List AV)
  | .agg l => some l
  | .tuple _ => none
  | .bad => none
  | v => some [v]
def AV.isCell : AV → Bool
  | .agg _ => false
  | .tuple _ => false
  | .bad => false
  | _ => true
def allCells : List AV → Bool
  | [] => true
  | v :: l => match v.isCell with
    | true => allCells l
    | false => false

theorem VRel.oneCell {v : AV} {x : Value} (h : VRel j v x) (hv : v.isCell = true) : x.oneCell' = true := by
  cases h <;> simp_all [AV.isCell, Value.oneCell']

theorem VRels.oneCells {l : List AV} {l' : List Value} (h : VRels j l l') (hv : allCells l = true) : ∀ x ∈ l', x.oneCell' = true := by
  induction l generalizing l' with
  | nil => cases h; simp
  | cons a l ih =>
    cases h with
    | cons h t =>
      simp only [allCells] at hv
      split at hv
      · intro x hx
        rcases List.mem_cons.1 hx with rfl | hx
        · exact h.oneCell (by assumption)
        · exact ih t hv x hx
      · cases hv

theorem VRel.cells {v : AV} {x : Value} {l : List AV} (h : VRel j v x) (hv : v.cells? = some l) : VRels j l x.cells.toList := by
  cases h <;> simp only [AV.cells?, Option.some.injEq, reduceCtorEq] at hv <;> subst hv <;> simp only [Value.cells] <;>
    first
      | (refine .cons ?_ .nil; constructor; done)
      | exact .cons (.ptr (by assumption)) .nil
      | exact .cons (.slice (by assumption) (by assumption) (by assumption) (by assumption)) .nil
      | exact .cons (.sliceEmpty (by assumption)) .nil
      | exact .cons (.map (by assumption)) .nil
      | exact .cons (.func (by assumption) (by assumption)) .nil
      | exact .cons (.iface (by assumption)) .nil
      | assumption

/-! ## rows -/
theorem get?_of_cells {c : Array Value} {E : TypeId} {fr : Nat × Nat} {B i : Nat} (hc : w.heap[B]? = some (.cells c E fr)) : w.cell? ⟨B, i, none⟩ = c[i]? := by
  simp [World.cell?, hc]

theorem Rel.cell (h : Rel j H w) {b : Nat} {wr : Bool} {olds : List Nat} {cells : List AV} {B base n : Nat} (hb : H.get b = some (.row wr olds cells)) (he : j b = some (B, base, n))
    {i : Nat} {x : AV} (hx : cells[i]? = some x) : ∃ x', w.cell? ⟨B, base + i, none⟩ = some x' ∧ VRel j x x' := by
  obtain ⟨c, E, fr, hc, h1, h2, h3, h4⟩ := h.objs b _ _ hb he
  obtain ⟨x', hx', hr⟩ := h3 i x hx
  exact ⟨x', by rw [get?_of_cells hc]; exact hx', hr⟩

theorem Rel.cellsAt (h : Rel j H w) {b : Nat} {wr : Bool} {olds : List Nat} {cells : List AV} {B base n : Nat} (hb : H.get b = some (.row wr olds cells)) (he : j b = some (B, base, n))
    (o m : Nat) (hm : ((cells.drop o).take m).length = m) : ∃ l' : List Value, l'.length = m ∧ VRels j ((cells.drop o).take m) l' ∧ ∀ k v, l'[k]? = some v → w.cell? ((⟨B, base + o, none⟩ : Addr).add k) = some v := by
  obtain ⟨c, E, fr, hc, h1, h2, h3, h4⟩ := h.objs b _ _ hb he
  have hlen : o + m ≤ cells.length ∨ m = 0 := by
    simp only [List.length_take, List.length_drop] at hm; omega
  rcases hlen with hlen | rfl
  · have hcs : cells.length ≤ n := h2
    have hsz : base + n ≤ c.size := h1
    refine ⟨(c.toList.drop (base + o)).take m, ?_, ?_, ?_⟩
    · simp only [List.length_take, List.length_drop, Array.length_toList]; omega
    · refine VRels.of_get ?_ fun k v v' hv hv' => ?_
      · simp only [List.length_take, List.length_drop, Array.length_toList]; omega
      · rw [List.getElem?_take] at hv hv'
        split at hv
        · rename_i hk
          rw [if_pos hk] at hv'
          rw [List.getElem?_drop] at hv hv'
          obtain ⟨x', hx', hr⟩ := h3 (o + k) v hv
          have : c[base + (o + k)]? = some v' := by
            rw [← Array.getElem?_toList, ← Nat.add_assoc]; exact hv'
          simp only at hx'
          rw [this] at hx'; cases hx'; exact hr
        · cases hv
    · intro k v hv
      rw [List.getElem?_take] at hv
      split at hv
      · rw [List.getElem?_drop] at hv
        rw [Addr.add_lit, get?_of_cells hc, ← Array.getElem?_toList]; exact hv
      · cases hv
  · exact ⟨[], rfl, by simp; exact .nil, by simp⟩

/-! ## loads -/
def aload (P : Program) (H : AHeap) (t : TypeId) (v : AV) : Option AV :=
  match v with
  | .ptr (some (b, o)) =>
    match H.get b with
    | some (.row _ _ cells) =>
      match aggT P t with
      | some true =>
        match szT P t with
        | some n => match Nat.beq ((cells.drop o).take n).length n with
          | true => some (.agg ((cells.drop o).take n))
          | false => none
        | none => none
      | some false => cells[o]?
      | none => none
    | _ => none
  | _ => none

theorem aloadVar_sound (h : Rel j H w) {t : TypeId} {v x : AV} {v' : Value} (hv : VRel j v v') (he : aload P H t v = some x) :
    ∃ a x', v' = .pointer (some a) ∧ (loadVar t a).run P w = .ok x' w ∧ VRel j x x' := by
  unfold aload at he
  split at he
  · rename_i b o
    cases hv with
    | ptr hj =>
      rename_i B base n
      refine ⟨⟨B, base + o, none⟩, ?_⟩
      split at he
      · rename_i wr olds cells hb
        split at he
        · rename_i ha
          split at he
          · rename_i sz hs
            split at he
            · rename_i hlen
              cases he
              obtain ⟨l', h1, h2, h3⟩ := h.cellsAt hb hj o sz (Nat.eq_of_beq_eq_true hlen)
              refine ⟨.agg l'.toArray, rfl, ?_, .agg h2⟩
              have := run_loadCells_list (P := P) w (⟨B, base + o, none⟩) l' h3
              rw [h1] at this
              simp only [loadVar, Sem.run_bind, run_isAggA ha, Result.andThen_ok, Sem.run_ite, if_true, run_sizeOfA hs, this, Sem.run_pure]
            · cases he
          · cases he
        · rename_i ha
          obtain ⟨x', h1, h2⟩ := h.cell hb hj he
          exact ⟨x', rfl, by simp [loadVar, run_isAggA ha, h1], h2⟩
        · cases he
      · cases he
  · cases he

theorem aload_sound (h : Rel j H w) {t : TypeId} {v x : AV} {v' : Value} (hv : VRel j v v') (he : aload P H t v = some x) : ∃ x', (Instr.loadAt t v').run P w = .ok x' w ∧ VRel j x x' := by
  obtain ⟨a, x', rfl, h1, h2⟩ := aloadVar_sound h hv he
  exact ⟨x', by simp [Instr.loadAt, Instr.sureAddr, h1], h2⟩

/-! ## stores -/
def setRange (c : Array Value) (o : Nat) : List Value → Array Value
  | [] => c
  | v :: vs => setRange (c.setIfInBounds o v) (o + 1) vs

theorem size_setRange : ∀ (vs : List Value) (c : Array Value) (o : Nat), (setRange c o vs).size = c.size
  | [], _, _ => rfl
  | v :: vs, c, o => by rw [setRange, size_setRange vs]; simp

theorem get_setRange : ∀ (vs : List Value) (c : Array Value) (o i : Nat), o + vs.length ≤ c.size → (setRange c o vs)[i]? = if o ≤ i ∧ i < o + vs.length then vs[i - o]? else c[i]?
  | [], c, o, i, _ => by rw [setRange, if_neg (by simp)]
  | v :: vs, c, o, i, h => by
    simp only [List.length_cons] at h
    rw [setRange, get_setRange vs _ _ _ (by simp; omega)]
    simp only [List.length_cons]
    by_cases h1 : o + 1 ≤ i ∧ i < o + 1 + vs.length
    · rw [if_pos h1, if_pos (by omega), show i - o = (i - (o + 1)) + 1 by omega]; rfl
    · rw [if_neg h1]
      by_cases h2 : i = o
      · subst h2
        have hlt : i < c.size := by omega
        rw [if_pos (by omega)]; simp [hlt]
      · rw [if_neg (by omega), Array.getElem?_setIfInBounds_ne (by omega)]

theorem setIfInBounds_same {α : Type} {a : Array α} {i : Nat} {x : α} (h : a[i]? = some x) : a.setIfInBounds i x = a := by
  apply Array.ext_getElem?
  intro k
  rw [Array.getElem?_setIfInBounds]
  split
  · rename_i hk; subst hk
    split
    · exact h.symm
    · rename_i hh; rw [Array.getElem?_eq_none (by omega)] at h; cases h
  · rfl

theorem World.setCell_eq {c : Array Value} {E : TypeId} {fr : Nat × Nat} {B o : Nat} {v : Value} (hc : w.heap[B]? = some (.cells c E fr)) :
    w.setCell ⟨B, o, none⟩ v = { w with heap := w.heap.setIfInBounds B (.cells (c.setIfInBounds o v) E fr) } := by
  unfold World.setCell
  congr 1
  apply Array.ext_getElem?
  intro k
  rw [Array.getElem?_modify, Array.getElem?_setIfInBounds]
  split
  · rename_i hk; subst hk
    have hlt : B < w.heap.size := by
      rcases Nat.lt_or_ge B w.heap.size with h | h
      · exact h
      · rw [Array.getElem?_eq_none h] at hc; cases hc
    rw [if_pos hlt, hc]; simp
  · rfl

theorem run_storeCellsA (B o : Nat) (E : TypeId) (fr : Nat × Nat) : ∀ (vs : List Value) (i : Nat) (c : Array Value) (w : World), w.heap[B]? = some (.cells c E fr) → o + i + vs.length ≤ c.size →
    (∀ k, k < vs.length → ¬ (fr.1 ≤ o + i + k ∧ o + i + k < fr.2)) → (∀ v ∈ vs, v.oneCell' = true) →
    (storeCells ⟨B, o, none⟩ vs i).run P w = .ok () { w with heap := w.heap.setIfInBounds B (.cells (setRange c (o + i) vs) E fr) }
  | [], i, c, w, hc, _, _, _ => by
    simp only [storeCells, setRange, setIfInBounds_same hc]; rfl
  | v :: vs, i, c, w, hc, hsz, hfr, h1 => by
    simp only [List.length_cons] at hsz
    have hlt : B < w.heap.size := by
      rcases Nat.lt_or_ge B w.heap.size with h | h
      · exact h
      · rw [Array.getElem?_eq_none h] at hc; cases hc
    have hcell : w.cell? ⟨B, o + i, none⟩ = some c[o + i] := by rw [get?_of_cells hc, Array.getElem?_eq_getElem]
    have hfz : w.frozen? ⟨B, o + i, none⟩ = false := by
      have h0 := hfr 0 (by simp)
      simp only [World.frozen?, hc]
      obtain ⟨lo, hi⟩ := fr
      simp only [Nat.add_zero] at h0
      simp only [Bool.and_eq_false_iff, decide_eq_false_iff_not]
      omega
    have hc' : (w.setCell ⟨B, o + i, none⟩ v).heap[B]? = some (.cells (c.setIfInBounds (o + i) v) E fr) := by
      rw [World.setCell_eq hc]; simp [hlt]
    have ih := run_storeCellsA B o E fr vs (i + 1) (c.setIfInBounds (o + i) v) (w.setCell ⟨B, o + i, none⟩ v) hc' (by simp; omega)
      (fun k hk => by have := hfr (k + 1) (by simp; omega); rwa [show o + i + (k + 1) = o + (i + 1) + k by omega] at this) (fun x hx => h1 x (by simp [hx]))
    have hst : (store ((⟨B, o, none⟩ : Addr).add i) v).run P w = .ok () (w.setCell ⟨B, o + i, none⟩ v) := by
      rw [Addr.add_lit, run_store P w _ v _ (h1 v (by simp)), hcell]
      simp [hfz]
    simp only [storeCells, Sem.run_bind, hst, Result.andThen_ok, ih, setRange]
    rw [World.setCell_eq hc]
    simp only [Result.ok.injEq, true_and]
    congr 1
    simp [Nat.add_assoc]

theorem splice_get {cells vs : List AV} {vs' : List Value} {c : Array Value} {base p : Nat} (hp : p ≤ cells.length) (hvs : VRels j vs vs') (hsz : base + p + vs.length ≤ c.size)
    (h3 : ∀ (i : Nat) v, cells[i]? = some v → ∃ x, c[base + i]? = some x ∧ VRel j v x) :
    ∀ (i : Nat) v, (cells.take p ++ vs ++ cells.drop (p + vs.length))[i]? = some v → ∃ x, (setRange c (base + p) vs')[base + i]? = some x ∧ VRel j v x := by
  intro i v hv
  have hl := hvs.length
  rw [get_setRange _ _ _ _ (by omega)]
  by_cases h1 : i < p
  · rw [if_neg (by omega)]
    rw [List.append_assoc, List.getElem?_append_left (by simp; omega), List.getElem?_take, if_pos h1] at hv
    exact h3 i v hv
  · by_cases h2 : i < p + vs.length
    · rw [if_pos (by omega), show base + i - (base + p) = i - p by omega]
      rw [List.append_assoc, List.getElem?_append_right (by simp; omega), List.length_take, Nat.min_eq_left hp, List.getElem?_append_left (by omega)] at hv
      exact hvs.get hv
    · rw [if_neg (by omega)]
      rw [List.getElem?_append_right (by simp; omega)] at hv
      simp only [List.length_append, List.length_take, Nat.min_eq_left hp, List.getElem?_drop] at hv
      rw [show p + vs.length + (i - (p + vs.length)) = i by omega] at hv
      exact h3 i v hv

/-- cells of a row are written -/
def awrite (H : AHeap) (b o : Nat) (vs : List AV) : Option AHeap :=
  match H.get b with
  | some (.row true olds cells) =>
    match Nat.ble (o + vs.length) cells.length with
    | true => match allCells vs with
      | true => some ((H.kill olds).put b (.row true [] (cells.take o ++ vs ++ cells.drop (o + vs.length))))
      | false => none
    | false => none
  | _ => none

theorem awrite_sound (h : Rel j H w) {b o : Nat} {vs : List AV} {vs' : List Value} {H' : AHeap} {B base n : Nat} (hj : j b = some (B, base, n)) (hvs : VRels j vs vs') (he : awrite H b o vs = some H') :
    ∃ w', (storeCells ⟨B, base + o, none⟩ vs').run P w = .ok () w' ∧ Rel j H' w' ∧ Ext j H w j H' w' := by
  unfold awrite at he
  split at he
  · rename_i olds cells hb
    split at he
    · rename_i hle
      split at he
      · rename_i hall
        cases he
        have hle := Nat.le_of_ble_eq_true hle
        have hlen := hvs.length
        obtain ⟨c, E, fr, hc, h1, h2, h3, h4⟩ := h.objs b _ _ hb hj
        simp only at hc h1 h2 h3 h4
        have hrun := run_storeCellsA (P := P) B (base + o) E fr vs' 0 c w hc (by omega) (fun k hk => by have := h4 trivial (o + k) (by omega); rwa [show base + (o + k) = base + o + 0 + k by omega] at this) (hvs.oneCells hall)
        refine ⟨_, hrun, ?_⟩
        refine h.write hb rfl hj rfl ⟨setRange c (base + o) vs', E, fr, ?_, ?_, ?_, ?_, fun _ => h4 trivial⟩
        · have hlt : B < w.heap.size := by
            rcases Nat.lt_or_ge B w.heap.size with h | h
            · exact h
            · rw [Array.getElem?_eq_none h] at hc; cases hc
          simp [hlt]
        · rw [size_setRange]; exact h1
        · simp only [List.length_append, List.length_take, List.length_drop]; omega
        · exact splice_get (by omega) hvs (by omega) h3
      · cases he
    · cases he
  · cases he

def astore (P : Program) (H : AHeap) (t : TypeId) (a v : AV) : Option AHeap :=
  match a with
  | .ptr (some (b, o)) =>
    match v.cells? with
    | some vs =>
      match szT P t with
      | some n => match Nat.beq vs.length n with
        | true => awrite H b o vs
        | false => none
      | none => none
    | none => none
  | _ => none

theorem astore_sound (h : Rel j H w) {t : TypeId} {a v : AV} {a' v' : Value} {H' : AHeap} (ha : VRel j a a') (hv : VRel j v v') (he : astore P H t a v = some H') :
    ∃ w', (Instr.storeAt t a' v').run P w = .ok () w' ∧ Rel j H' w' ∧ Ext j H w j H' w' := by
  unfold astore at he
  split at he
  · rename_i b o
    cases ha with
    | ptr hj =>
      rename_i B base n
      split at he
      · rename_i vs hvs
        split at he
        · rename_i sz hs
          split at he
          · rename_i hlen
            have hr := hv.cells hvs
            obtain ⟨w', h1, h2, h3⟩ := awrite_sound (P := P) h hj hr he
            refine ⟨w', ?_, h2, h3⟩
            have hn : v'.cells.size = sz := by
              rw [← Array.length_toList, ← hr.length]; exact Nat.eq_of_beq_eq_true hlen
            simp [Instr.storeAt, Instr.sureAddr, storeVar, run_sizeOfA hs, hn, h1]
          · cases he
        · cases he
      · cases he
  · cases he

/-! ## new rows -/
theorem Rel.newRow (h : Rel j H w) {cells : List AV} {cs : Array Value} (E : TypeId) (hc : VRels j cells cs.toList) :
    ∃ j', j' H.next = some (w.heap.size, 0, cs.size) ∧ Rel j' (H.alloc (.row true [] cells)) { w with heap := w.heap.push (.cells cs E) } ∧
      Ext j H w j' (H.alloc (.row true [] cells)) { w with heap := w.heap.push (.cells cs E) } := by
  have hle := J.le_set (h.bound _ (Nat.le_refl _)) (w.heap.size, 0, cs.size)
  refine ⟨j.set H.next (w.heap.size, 0, cs.size), J.set_self _ _ _, ?_⟩
  refine h.alloc (by simp [AObj.olds]) ⟨cs, E, (0, 0), by simp, by simp, by simp [hc.length], fun i v hv => ?_, fun _ i _ => by simp⟩
  obtain ⟨x, hx, hr⟩ := hc.get hv
  exact ⟨x, by simpa using hx, hr.mono hle⟩

end Go.Ah
