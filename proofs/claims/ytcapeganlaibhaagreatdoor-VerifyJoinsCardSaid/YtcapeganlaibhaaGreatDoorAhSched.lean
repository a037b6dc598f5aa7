/- The orders in which the model may carry out a region. -/
import Derived.Test.YtcapeganlaibhaaGreatDoorAhBeq
set_option linter.unusedVariables false
set_option linter.unusedSimpArgs false
namespace Go.Ah

def edgesOf : List Edge → List Nat
  | [] => []
  | e :: l => match Region.binds .any e with
    | true => e.on :: edgesOf l
    | false => edgesOf l
def edgesOn (o : Oper) : List Nat := edgesOf o.after.toList

theorem mem_edgesOf {l : List Edge} {k : Nat} : k ∈ edgesOf l ↔ ∃ e ∈ l, Region.binds .any e = true ∧ e.on = k := by
  induction l with
  | nil => simp [edgesOf]
  | cons e l ih =>
    simp only [edgesOf]
    split
    · rename_i hb; simp [ih, hb]; constructor
      · rintro (h | h)
        · exact .inl h.symm
        · exact .inr h
      · rintro (h | h)
        · exact .inl h.symm
        · exact .inr h
    · rename_i hb; simp [ih, hb]

inductive Sched (ops : Array Oper) : List Nat → List Nat → Prop
  | nil {done : List Nat} (h : ∀ i, i < ops.size → i ∈ done) : Sched ops done []
  | cons {done L : List Nat} {i : Nat} {o : Oper} (ho : ops[i]? = some o) (hn : i ∉ done) (he : ∀ k ∈ edgesOn o, k ∈ done) (t : Sched ops (i :: done) L) : Sched ops done (i :: L)

/-- each binding edge leads back -/
def Back (ops : Array Oper) : Prop := ∀ i o, ops[i]? = some o → ∀ k ∈ edgesOn o, k < i

theorem filter_drop_one {p : Nat → Bool} {i : Nat} (hp : p i = true) : ∀ (l : List Nat), l.Nodup → i ∈ l → (l.filter fun x => p x && !(x == i)).length + 1 = (l.filter p).length
  | [], _, h => by cases h
  | x :: l, hn, h => by
    simp only [List.nodup_cons] at hn
    by_cases hx : x = i
    · subst hx
      have : l.filter (fun y => p y && !(y == x)) = l.filter p := by
        apply List.filter_congr
        intro y hy
        have : y ≠ x := fun e => hn.1 (e ▸ hy)
        simp [this]
      simp [hp, this]
    · have hi : i ∈ l := by simpa [Ne.symm hx] using h
      have ih := filter_drop_one hp l hn.2 hi
      cases hpx : p x <;> simp [hpx, hx, ih]

theorem range_nodup (n : Nat) : (List.range n).Nodup := List.nodup_range

theorem sched_go (ops : Array Oper) (hb : Back ops) : ∀ (fuel t : Nat) (listed : Array Bool) (acc : List Nat), listed.size = ops.size → (∀ i, i < ops.size → (listed.getD i false = true ↔ i ∈ acc)) →
    ((List.range ops.size).filter fun i => !listed.getD i true).length = fuel → ∃ L, Region.linearise.go .any ops fuel t listed acc = acc.reverse ++ L ∧ Sched ops acc L
  | 0, t, listed, acc, hs, hl, hc => by
    refine ⟨[], by simp [Region.linearise.go], .nil fun i hi => ?_⟩
    have hnil := List.length_eq_zero_iff.1 hc
    rw [List.filter_eq_nil_iff] at hnil
    have := hnil i (by simpa using hi)
    simp only [Bool.not_eq_true, Bool.not_eq_eq_eq_not, Bool.not_false] at this
    apply (hl i hi).1
    have h2 : listed[i]? = some listed[i] := Array.getElem?_eq_getElem (by omega)
    simp only [Array.getD_eq_getD_getElem?, h2, Option.getD_some] at this ⊢
    simpa using this
  | fuel + 1, t, listed, acc, hs, hl, hc => by
    have hlt : ∀ i, i < ops.size → listed.getD i true = listed.getD i false := fun i hi => by
      have h2 : listed[i]? = some listed[i] := Array.getElem?_eq_getElem (by omega)
      simp only [Array.getD_eq_getD_getElem?, h2, Option.getD_some]
    -- the least one that is not listed can be taken
    have hne : ∃ i, i < ops.size ∧ i ∉ acc := by
      have hpos : 0 < ((List.range ops.size).filter fun i => !listed.getD i true).length := by omega
      obtain ⟨i, hi⟩ := List.exists_mem_of_length_pos hpos
      simp only [List.mem_filter, List.mem_range, Bool.not_eq_true'] at hi
      refine ⟨i, hi.1, fun hh => ?_⟩
      have := (hl i hi.1).2 hh
      rw [← hlt i hi.1, hi.2] at this; cases this
    have hmin : ∃ i, i < ops.size ∧ i ∉ acc ∧ ∀ k, k < i → k ∈ acc := by
      obtain ⟨i, hi, hia⟩ := hne
      induction i using Nat.strongRecOn with
      | _ i ih =>
        by_cases h : ∃ k, k < i ∧ k ∉ acc
        · obtain ⟨k, hk, hka⟩ := h
          exact ih k hk (by omega) hka
        · exact ⟨i, hi, hia, fun k hk => Classical.byContradiction fun hh => h ⟨k, hk, hh⟩⟩
    obtain ⟨i0, hi0, hi0a, hi0m⟩ := hmin
    -- who can be taken
    obtain ⟨rs, hrs⟩ : ∃ rs, ((List.range ops.size).filter fun i => !listed.getD i true && ((ops[i]?).map (·.after.all fun e => !Region.binds .any e || listed.getD e.on false)).getD false) = rs := ⟨_, rfl⟩
    have hmem : ∀ i, i ∈ rs ↔ i < ops.size ∧ i ∉ acc ∧ ∀ o, ops[i]? = some o → ∀ k ∈ edgesOn o, k ∈ acc := by
      intro i
      rw [← hrs]
      simp only [List.mem_filter, List.mem_range, Bool.and_eq_true, Bool.not_eq_true']
      constructor
      · rintro ⟨h1, h2, h3⟩
        refine ⟨h1, fun hh => ?_, fun o ho k hk => ?_⟩
        · have := (hl i h1).2 hh
          rw [← hlt i h1, h2] at this; cases this
        · rw [ho] at h3
          simp only [Option.map_some, Option.getD_some, Array.all_eq_true'] at h3
          obtain ⟨e, he, hbe, rfl⟩ := mem_edgesOf.1 hk
          have := h3 e (by simpa using he)
          simp only [hbe, Bool.not_true, Bool.false_or] at this
          have hlt2 : e.on < ops.size := by have := hb i o ho e.on hk; omega
          exact (hl e.on hlt2).1 this
      · rintro ⟨h1, h2, h3⟩
        refine ⟨h1, ?_, ?_⟩
        · rw [hlt i h1]
          cases hh : listed.getD i false with
          | false => rfl
          | true => exact absurd ((hl i h1).1 hh) h2
        · rw [Array.getElem?_eq_getElem h1]
          simp only [Option.map_some, Option.getD_some, Array.all_eq_true']
          intro e he
          cases hbe : Region.binds .any e with
          | false => rfl
          | true =>
            simp only [Bool.not_true, Bool.false_or]
            have hk : e.on ∈ edgesOn ops[i] := mem_edgesOf.2 ⟨e, by simpa using he, hbe, rfl⟩
            have hlt2 : e.on < ops.size := by have := hb i _ (Array.getElem?_eq_getElem h1) e.on hk; omega
            exact (hl e.on hlt2).2 (h3 _ (Array.getElem?_eq_getElem h1) _ hk)
    have hpos : 0 < rs.length := List.length_pos_of_mem ((hmem i0).2 ⟨hi0, hi0a, fun o ho k hk => hi0m k (hb i0 o ho k hk)⟩)
    have hpick : rs[t % rs.length]? = some (rs[t % rs.length]'(Nat.mod_lt _ hpos)) := List.getElem?_eq_getElem (Nat.mod_lt _ hpos)
    obtain ⟨i, hi⟩ : ∃ i, rs[t % rs.length]'(Nat.mod_lt _ hpos) = i := ⟨_, rfl⟩
    rw [hi] at hpick
    have him : i ∈ rs := hi ▸ List.getElem_mem _
    obtain ⟨m1, m2, m3⟩ := (hmem i).1 him
    have hset : ∀ k, k < ops.size → ((listed.setIfInBounds i true).getD k false = true ↔ k ∈ i :: acc) := fun k hk => by
      simp only [Array.getD_eq_getD_getElem?, Array.getElem?_setIfInBounds, List.mem_cons]
      by_cases hki : i = k
      · subst hki; simp [hs, m1]
      · rw [if_neg hki, ← Array.getD_eq_getD_getElem?, hl k hk]; simp [Ne.symm hki]
    have hcount : ((List.range ops.size).filter fun k => !(listed.setIfInBounds i true).getD k true).length = fuel := by
      have hpi : (!listed.getD i true) = true := by
        rw [hlt i m1]
        cases hh : listed.getD i false with
        | false => rfl
        | true => exact absurd ((hl i m1).1 hh) m2
      have h1 := filter_drop_one (p := fun k => !listed.getD k true) hpi (List.range ops.size) (range_nodup _) (by simpa using m1)
      have h2 : (List.range ops.size).filter (fun k => !(listed.setIfInBounds i true).getD k true) = (List.range ops.size).filter (fun x => (!listed.getD x true) && !(x == i)) := by
        apply List.filter_congr
        intro k hk
        simp only [Array.getD_eq_getD_getElem?, Array.getElem?_setIfInBounds]
        by_cases hki : i = k
        · subst hki; simp [hs, m1]
        · simp [hki, Ne.symm hki]
      rw [h2]; omega
    obtain ⟨L, hL, hS⟩ := sched_go ops hb fuel (t / rs.length) (listed.setIfInBounds i true) (i :: acc) (by simpa using hs) hset hcount
    refine ⟨i :: L, ?_, .cons (Array.getElem?_eq_getElem m1) m2 (m3 _ (Array.getElem?_eq_getElem m1)) hS⟩
    simp only [Region.linearise.go, hrs, hpick]
    rw [hL]; simp

theorem sched_schedule (ops : Array Oper) (hb : Back ops) (t : Nat) : Sched ops [] (Region.schedule true ops t) := by
  have : Region.schedule true ops t = Region.linearise .any ops t := by simp [Region.schedule]
  rw [this]
  obtain ⟨L, hL, hS⟩ := sched_go ops hb ops.size t (Array.replicate ops.size false) [] (by simp) (fun i hi => by simp [Array.getD_eq_getD_getElem?, hi]) (by
    have : (List.range ops.size).filter (fun i => !(Array.replicate ops.size false).getD i true) = List.range ops.size := by
      rw [List.filter_eq_self]
      intro i hi
      simp only [List.mem_range] at hi
      simp [Array.getD_eq_getD_getElem?, hi]
    rw [this]; simp)
  have hL' : Region.linearise .any ops t = L := by simpa [Region.linearise] using hL
  rw [hL']; exact hS

/-! ## who stands before whom -/
def bmask (acc : List Nat) : List Nat → Nat
  | [] => 0
  | k :: l => Nat.lor (Nat.lor (Nat.pow 2 k) (acc.getD k 0)) (bmask acc l)
def masks : List Oper → List Nat → List Nat
  | [], acc => acc
  | o :: l, acc => masks l (acc ++ [bmask acc (edgesOn o)])
def hasBit (m i : Nat) : Bool := Nat.beq (Nat.land (Nat.shiftRight m i) 1) 1

theorem hasBit_eq (m i : Nat) : hasBit m i = m.testBit i := by
  unfold hasBit Nat.testBit
  have : Nat.land (Nat.shiftRight m i) 1 = 1 &&& (m >>> i) := Nat.and_comm _ _
  rw [this]
  have h2 : 1 &&& (m >>> i) = (m >>> i) % 2 := by rw [Nat.and_comm, Nat.and_one_is_mod]
  rw [h2]
  have h3 : (m >>> i) % 2 < 2 := Nat.mod_lt _ (by omega)
  rcases Nat.lt_or_ge ((m >>> i) % 2) 1 with h | h
  · have : (m >>> i) % 2 = 0 := by omega
    rw [this]; rfl
  · have : (m >>> i) % 2 = 1 := by omega
    rw [this]; rfl

theorem bmask_bit {acc : List Nat} {l : List Nat} {y : Nat} : hasBit (bmask acc l) y = true → ∃ k ∈ l, y = k ∨ hasBit (acc.getD k 0) y = true := by
  induction l with
  | nil => intro h; rw [hasBit_eq] at h; simp [bmask] at h
  | cons k l ih =>
    intro h
    rw [hasBit_eq] at h
    have h' : ((2 ^ k ||| acc.getD k 0) ||| bmask acc l).testBit y = true := h
    simp only [Nat.testBit_or, Bool.or_eq_true] at h'
    rcases h' with (h' | h') | h'
    · refine ⟨k, by simp, .inl ?_⟩
      rw [Nat.testBit_two_pow] at h'
      exact (of_decide_eq_true h').symm
    · exact ⟨k, by simp, .inr (by rw [hasBit_eq]; exact h')⟩
    · obtain ⟨k', hk', hy⟩ := ih (by rw [hasBit_eq]; exact h')
      exact ⟨k', by simp [hk'], hy⟩

theorem masks_prefix : ∀ (l : List Oper) (acc : List Nat), ∃ r, masks l acc = acc ++ r ∧ r.length = l.length
  | [], acc => ⟨[], by simp [masks], rfl⟩
  | o :: l, acc => by
    obtain ⟨r, h1, h2⟩ := masks_prefix l (acc ++ [bmask acc (edgesOn o)])
    exact ⟨bmask acc (edgesOn o) :: r, by simp only [masks, h1, List.append_assoc, List.cons_append, List.nil_append], by simp [h2]⟩

theorem masks_get : ∀ (l : List Oper) (acc : List Nat) (i : Nat) (o : Oper), l[i]? = some o → (masks l acc).getD (acc.length + i) 0 = bmask ((masks l acc).take (acc.length + i)) (edgesOn o)
  | [], acc, i, o, h => by simp at h
  | x :: l, acc, i, o, h => by
    cases i with
    | zero =>
      simp only [List.getElem?_cons_zero, Option.some.injEq] at h
      subst h
      obtain ⟨r, h1, _⟩ := masks_prefix l (acc ++ [bmask acc (edgesOn x)])
      simp only [masks, h1, Nat.add_zero]
      rw [List.append_assoc]
      simp
    | succ i =>
      have := masks_get l (acc ++ [bmask acc (edgesOn x)]) i o (by simpa using h)
      simp only [masks]
      simp only [List.length_append, List.length_cons, List.length_nil, Nat.zero_add] at this
      rw [show acc.length + (i + 1) = acc.length + 1 + i by omega]
      exact this

def Closed (ops : Array Oper) (done : List Nat) : Prop := ∀ i ∈ done, ∀ o, ops[i]? = some o → ∀ k ∈ edgesOn o, k ∈ done

/-- all that stands before one whose edges lead into a closed set lies in it -/
theorem before_done {ops : Array Oper} (hb : Back ops) {done : List Nat} (hc : Closed ops done) : ∀ (x : Nat) (o : Oper), ops[x]? = some o → (∀ k ∈ edgesOn o, k ∈ done) → ∀ y, hasBit ((masks ops.toList []).getD x 0) y = true → y ∈ done := by
  intro x
  induction x using Nat.strongRecOn with
  | _ x ih =>
    intro o ho he y hy
    have hg := masks_get ops.toList [] x o (by simpa using ho)
    simp only [List.length_nil, Nat.zero_add] at hg
    rw [hg] at hy
    obtain ⟨k, hk, hky⟩ := bmask_bit hy
    rcases hky with rfl | hky
    · exact he _ hk
    · have hkx := hb x o ho k hk
      have hkd := he k hk
      have hks : k < ops.size := by
        have : x < ops.size := (Array.getElem?_eq_some_iff.1 ho).1
        omega
      have hok : ops[k]? = some ops[k] := Array.getElem?_eq_getElem hks
      refine ih k hkx _ hok (hc k hkd _ hok) y ?_
      rw [← hky]
      congr 1
      simp only [List.getD_eq_getElem?_getD]
      rw [List.getElem?_take, if_pos hkx]

end Go.Ah
