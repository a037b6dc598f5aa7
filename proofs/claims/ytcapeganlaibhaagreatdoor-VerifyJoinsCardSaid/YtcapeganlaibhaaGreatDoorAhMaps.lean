/- Maps. -/
import Derived.Test.YtcapeganlaibhaaGreatDoorAhOps8
set_option linter.unusedVariables false
set_option linter.unusedSimpArgs false
namespace Go.Ah

variable {P : Program} {j : J} {H : AHeap} {w : World}

/-- equality of scalars that can be seen at once -/
def keq1 : AV → AV → Option Bool
  | .int k a, .int k' b => match decide (k = k') with
    | true => some (a == b)
    | false => none
  | .str a, .str b => some (beqBytes a b)
  | .bool a, .bool b => some (a == b)
  | _, _ => none
def keqs : List AV → List AV → Option Bool
  | [], [] => some true
  | a :: l, b :: m => match keq1 a b, keqs l m with
    | some true, r => r
    | some false, some _ => some false
    | _, _ => none
  | _, _ => none

theorem keq1_true {a b : AV} (h : keq1 a b = some true) : a = b := by
  unfold keq1 at h
  split at h
  · split at h
    · rename_i hk; have hk := of_decide_eq_true hk; simp at h; rw [hk, h]
    · cases h
  · rw [beqBytes_eq] at h; simp at h; rw [h]
  · simp at h; rw [h]
  · cases h
theorem keqs_true : ∀ {l m : List AV}, keqs l m = some true → l = m
  | [], [], _ => rfl
  | [], _ :: _, h => by simp [keqs] at h
  | _ :: _, [], h => by simp [keqs] at h
  | a :: l, b :: m, h => by
    simp only [keqs] at h
    split at h
    · rename_i h1; rw [keq1_true h1, keqs_true h]
    · cases h
    · cases h

def isScalar : AV → Bool
  | .int _ _ => true
  | .str _ => true
  | .bool _ => true
  | _ => false
theorem VRel.det {a : AV} {x y : Value} (hx : VRel j a x) (hy : VRel j a y) (ha : isScalar a = true) : x = y := by
  cases hx <;> simp [isScalar] at ha <;> cases hy <;> rfl
theorem keq1_scalar {a b : AV} {r : Bool} (h : keq1 a b = some r) : isScalar a = true ∧ isScalar b = true := by
  unfold keq1 at h
  split at h <;> first | (exact ⟨rfl, rfl⟩) | cases h
theorem keqs_det {l m : List AV} {r : Bool} : keqs l m = some r → ∀ {x y : List Value}, VRels j l x → VRels j l y → x = y := by
  induction l generalizing m r with
  | nil => intro _ x y hx hy; cases hx; cases hy; rfl
  | cons a l ih =>
    intro h x y hx hy
    cases m with
    | nil => simp [keqs] at h
    | cons b m =>
      simp only [keqs] at h
      cases hx with
      | cons h1 t1 => cases hy with
        | cons h2 t2 =>
          split at h
          · rename_i hk
            rw [h1.det h2 (keq1_scalar hk).1, ih h t1 t2]
          · rename_i hk hr
            rw [h1.det h2 (keq1_scalar hk).1, ih hr t1 t2]
          · cases h

/-- equality of keys of a type -/
def eqK (P : Program) (kt : TypeId) (a b : AV) : Option Bool :=
  match a, b with
  | .int _ _, .int _ _ => match P.underlying kt with
    | some (.int _) => keq1 a b
    | _ => none
  | .str _, .str _ => match P.underlying kt with
    | some .string => keq1 a b
    | _ => none
  | .bool _, .bool _ => match P.underlying kt with
    | some .bool => keq1 a b
    | _ => none
  | .agg l, .agg m => match P.underlying kt with
    | some (.struct _) => match keqs l m, aeq P 6 kt a b with
      | some true, some true => some true
      | some false, some false => some false
      | _, _ => none
    | _ => none
  | _, _ => none

/-- the key of each entry is like this one, or it is not -/
def Told (P : Program) (kt : TypeId) (k : Value) (w : World) (c : Value → Bool) (l : List MapEntry) : Prop :=
  (∃ d, P.underlying kt = some d ∧ ((∀ e ∈ l, Instr.sameNow d k e.key = some (c e.key)) ∨ ((∀ e ∈ l, Instr.sameNow d k e.key = none) ∧ ∀ e ∈ l, (Op.equal kt k e.key).run P w = .ok (c e.key) w)))

def cfind (c : Value → Bool) : List MapEntry → Nat → Option (Nat × Value)
  | [], _ => none
  | e :: es, i => if c e.key then some (i, e.val) else cfind c es (i + 1)

theorem findNow_eq {d : TypeDesc} {k : Value} {c : Value → Bool} : ∀ (l : List MapEntry) (i : Nat), (∀ e ∈ l, Instr.sameNow d k e.key = some (c e.key)) → Instr.findNow d k l i = some (cfind c l i)
  | [], _, _ => rfl
  | e :: l, i, h => by
    simp only [Instr.findNow, h e (by simp), cfind]
    cases c e.key
    · simp [findNow_eq l (i + 1) (fun e he => h e (by simp [he]))]
    · simp

theorem findAsking_eq {kt : TypeId} {k : Value} {c : Value → Bool} : ∀ (l : List MapEntry) (i : Nat), (∀ e ∈ l, (Op.equal kt k e.key).run P w = .ok (c e.key) w) → (Instr.findAsking kt k l i).run P w = .ok (cfind c l i) w
  | [], _, _ => rfl
  | e :: l, i, h => by
    simp only [Instr.findAsking, Sem.run_bind, h e (by simp), Result.andThen_ok, cfind]
    cases c e.key
    · simp [findAsking_eq l (i + 1) (fun e he => h e (by simp [he]))]
    · simp

theorem Told.run {kt : TypeId} {k : Value} {c : Value → Bool} {l : List MapEntry} (h : Told P kt k w c l) : (Instr.findKey kt k l).run P w = .ok (cfind c l 0) w := by
  obtain ⟨d, hu, h | ⟨h1, h2⟩⟩ := h
  · simp [Instr.findKey, run_underlying hu, findNow_eq l 0 h]
  · cases l with
    | nil => simp [Instr.findKey, run_underlying hu, Instr.findNow, cfind]
    | cons e l =>
      have : Instr.findNow d k (e :: l) 0 = none := by simp [Instr.findNow, h1 e (by simp)]
      simp only [Instr.findKey, Sem.run_bind, run_underlying hu, Result.andThen_ok, this]
      exact findAsking_eq _ _ h2

/-- what stands at a key, if just one entry has it -/
def afind (eq : AV → Option Bool) : List (AV × AV) → Option (Option AV)
  | [] => some none
  | (k, v) :: es => match eq k with
    | some true => match afind eq es with
      | some none => some (some v)
      | _ => none
    | some false => afind eq es
    | none => none

/-- the entries with another value at a key -/
def aset (eq : AV → Option Bool) (x : AV) : List (AV × AV) → List (AV × AV)
  | [] => []
  | (k, v) :: es => match eq k with
    | some true => (k, x) :: es
    | _ => (k, v) :: aset eq x es
def adel (eq : AV → Option Bool) : List (AV × AV) → List (AV × AV)
  | [] => []
  | (k, v) :: es => match eq k with
    | some true => es
    | _ => (k, v) :: adel eq es

theorem EntRel.mem {es : List (AV × AV)} : ∀ {l : List MapEntry}, EntRel j es l → ∀ e ∈ l, ∃ p ∈ es, VRel j p.1 e.key ∧ VRel j p.2 e.val := by
  induction es with
  | nil => intro l h e he; cases l with | nil => cases he | cons => exact h.elim
  | cons p es ih =>
    intro l h e he
    obtain ⟨k, v⟩ := p
    cases l with
    | nil => cases he
    | cons x l =>
      obtain ⟨h1, h2, h3⟩ := h
      rcases List.mem_cons.1 he with rfl | he
      · exact ⟨(k, v), by simp, h1, h2⟩
      · obtain ⟨p, hp, hr⟩ := ih h3 e he
        exact ⟨p, by simp [hp], hr⟩

/-- the abstract look and the model's -/
theorem afind_rel {eq : AV → Option Bool} {c : Value → Bool} {es : List (AV × AV)} : ∀ {l : List MapEntry} {r : Option AV}, EntRel j es l → (∀ p ∈ es, ∀ x, VRel j p.1 x → eq p.1 = some (c x) ∨ eq p.1 = none) → afind eq es = some r →
    match r with
    | none => ∀ e ∈ l, c e.key = false
    | some v => ∃ l1 e0 l2, l = l1 ++ e0 :: l2 ∧ c e0.key = true ∧ VRel j v e0.val ∧ (∀ e ∈ l1, c e.key = false) ∧ (∀ e ∈ l2, c e.key = false) ∧
        (∀ x y, VRel j x y → EntRel j (aset eq x es) (l1 ++ { e0 with val := y } :: l2)) ∧ EntRel j (adel eq es) (l1 ++ l2) := by
  induction es with
  | nil =>
    intro l r h _ he
    cases l with
    | nil => simp only [afind, Option.some.injEq] at he; subst he; simp
    | cons => exact h.elim
  | cons p es ih =>
    intro l r h hc he
    obtain ⟨k, v⟩ := p
    cases l with
    | nil => exact h.elim
    | cons e l =>
      obtain ⟨h1, h2, h3⟩ := h
      simp only [afind] at he
      have hck := hc (k, v) (by simp) e.key h1
      split at he
      · rename_i hk
        rw [hk] at hck
        have hce : c e.key = true := by rcases hck with h | h; · simpa using h.symm
                                        · cases h
        split at he
        · rename_i hn
          cases he
          have := ih h3 (fun p hp => hc p (by simp [hp])) hn
          refine ⟨[], e, l, rfl, hce, h2, by simp, this, fun x y hxy => ?_, ?_⟩
          · simp only [aset, hk]; exact ⟨h1, hxy, h3⟩
          · simp only [adel, hk]; exact h3
        · cases he
      · rename_i hk
        rw [hk] at hck
        have hce : c e.key = false := by rcases hck with h | h; · simpa using h.symm
                                         · cases h
        have := ih h3 (fun p hp => hc p (by simp [hp])) he
        cases r with
        | none => exact fun x hx => by rcases List.mem_cons.1 hx with rfl | hx; exact hce; exact this x hx
        | some v' =>
          obtain ⟨l1, e0, l2, q1, q2, q3, q4, q5, q6, q7⟩ := this
          refine ⟨e :: l1, e0, l2, by rw [q1]; rfl, q2, q3, fun x hx => by rcases List.mem_cons.1 hx with rfl | hx; exact hce; exact q4 x hx, q5, fun x y hxy => ?_, ?_⟩
          · simp only [aset, hk]; exact ⟨h1, h2, q6 x y hxy⟩
          · simp only [adel, hk]; exact ⟨h1, h2, q7⟩
      · cases he

theorem cfind_none {c : Value → Bool} : ∀ (l : List MapEntry) (i : Nat), (∀ e ∈ l, c e.key = false) → cfind c l i = none
  | [], _, _ => rfl
  | e :: l, i, h => by simp [cfind, h e (by simp), cfind_none l (i + 1) (fun e he => h e (by simp [he]))]

theorem cfind_some {c : Value → Bool} : ∀ (l : List MapEntry) (i : Nat), (∃ e ∈ l, c e.key = true) → ∃ p1 e0 p2, l = p1 ++ e0 :: p2 ∧ c e0.key = true ∧ cfind c l i = some (i + p1.length, e0.val)
  | [], _, h => by obtain ⟨e, he, _⟩ := h; cases he
  | e :: l, i, h => by
    by_cases hc : c e.key = true
    · exact ⟨[], e, l, rfl, hc, by simp [cfind, hc]⟩
    · obtain ⟨x, hx, hcx⟩ := h
      have : ∃ e ∈ l, c e.key = true := by
        rcases List.mem_cons.1 hx with rfl | hx
        · exact absurd hcx hc
        · exact ⟨x, hx, hcx⟩
      obtain ⟨p1, e0, p2, q1, q2, q3⟩ := cfind_some l (i + 1) this
      refine ⟨e :: p1, e0, p2, by rw [q1]; rfl, q2, ?_⟩
      simp only [cfind, hc, q3]
      simp; omega

/-- one entry alone has a key: where it stands in another order -/
theorem one_place {c : Value → Bool} {l1 l2 p1 p2 : List MapEntry} {e0 e1 : MapEntry} (hp : (l1 ++ e0 :: l2).Perm (p1 ++ e1 :: p2)) (h1 : c e1.key = true) (ha : ∀ e ∈ l1, c e.key = false) (hb : ∀ e ∈ l2, c e.key = false) :
    e1 = e0 ∧ (l1 ++ l2).Perm (p1 ++ p2) := by
  have hm : e1 ∈ l1 ++ e0 :: l2 := hp.symm.subset (by simp)
  have he : e1 = e0 := by
    rcases List.mem_append.1 hm with h | h
    · rw [ha e1 h] at h1; cases h1
    · rcases List.mem_cons.1 h with h | h
      · exact h
      · rw [hb e1 h] at h1; cases h1
  refine ⟨he, ?_⟩
  subst he
  have := (List.perm_middle.symm.trans hp).trans List.perm_middle
  exact this.cons_inv


theorem afind_all {eq : AV → Option Bool} : ∀ {es : List (AV × AV)} {r : Option AV}, afind eq es = some r → ∀ p ∈ es, ∃ b, eq p.1 = some b
  | [], _, _, p, hp => by cases hp
  | (k, v) :: es, r, h, p, hp => by
    simp only [afind] at h
    split at h
    · rename_i hk
      split at h
      · rename_i hn
        rcases List.mem_cons.1 hp with rfl | hp
        · exact ⟨_, hk⟩
        · exact afind_all hn p hp
      · cases h
    · rename_i hk
      rcases List.mem_cons.1 hp with rfl | hp
      · exact ⟨_, hk⟩
      · exact afind_all h p hp
    · cases h

/-- what the model says of two keys -/
noncomputable def ceq (P : Program) (kt : TypeId) (k : Value) (w : World) (x : Value) : Bool :=
  match (Op.equal kt k x).run P w with
  | .ok b _ => b
  | _ => false

theorem eqK_sound {kt : TypeId} {a b : AV} {a' b' : Value} {r : Bool} (ha : VRel j a a') (hb : VRel j b b') (he : eqK P kt a b = some r) :
    (Op.equal kt a' b').run P w = .ok r w ∧ ∃ d, P.underlying kt = some d ∧ ((isScalar a = true ∧ Instr.sameNow d a' b' = some r) ∨ (isScalar a = false ∧ Instr.sameNow d a' b' = none)) := by
  unfold eqK at he
  split at he <;> (try (cases he; done))
  · split at he
    · rename_i hu
      cases ha; cases hb
      simp only [keq1] at he
      split at he
      · rename_i hk
        have hk := of_decide_eq_true hk; subst hk
        cases he
        refine ⟨by simp [Op.equal, Op.maxDepth, run_equalIn_int w _ _ _ _ _ _ hu], _, hu, .inl ⟨rfl, by simp [Instr.sameNow]⟩⟩
      · cases he
    · cases he
  · split at he
    · rename_i hu
      cases ha; cases hb
      simp only [keq1, Option.some.injEq] at he
      subst he
      have hq : ∀ s1 s2 : List UInt8, ((⟨s1.toArray⟩ : ByteArray) == ⟨s2.toArray⟩) = beqBytes s1 s2 := fun s1 s2 => by
        rw [beq_toListBytes, beqBytes_eq]; simp only [ByteArray.toList_mk]; rw [Bool.eq_iff_iff]; simp
      refine ⟨?_, _, hu, .inl ⟨rfl, by simp only [Instr.sameNow, hq]⟩⟩
      rw [Op.equal, Op.maxDepth, run_equalIn_string w _ _ _ _ hu, ← beq_toListBytes, hq]
    · cases he
  · split at he
    · rename_i hu
      cases ha; cases hb
      simp only [keq1, Option.some.injEq] at he
      subst he
      exact ⟨by simp [Op.equal, Op.maxDepth, run_equalIn_bool' w _ _ _ _ hu], _, hu, .inl ⟨rfl, by simp [Instr.sameNow]⟩⟩
    · cases he
  · split at he
    · rename_i fs hu
      have key : ∀ (x y : AV) (x' y' : Value), VRel j x x' → VRel j y y' → aeq P 6 kt x y = some r → (Op.equal kt x' y').run P w = .ok r w := fun x y x' y' hx hy h => aeq_sound (P := P) (w := w) 9994 6 kt x y r x' y' h hx hy
      split at he
      · rename_i h1 h2
        cases he
        have := key _ _ _ _ ha hb h2
        cases ha; cases hb
        exact ⟨this, _, hu, .inr ⟨rfl, rfl⟩⟩
      · rename_i h1 h2
        cases he
        have := key _ _ _ _ ha hb h2
        cases ha; cases hb
        exact ⟨this, _, hu, .inr ⟨rfl, rfl⟩⟩
      · cases he
    · cases he

theorem eqK_ceq {kt : TypeId} {a b : AV} {a' b' : Value} {r : Bool} (ha : VRel j a a') (hb : VRel j b b') (he : eqK P kt a b = some r) : ceq P kt a' w b' = r := by
  unfold ceq; rw [(eqK_sound (w := w) ha hb he).1]

theorem told_of {kt : TypeId} {k0 : AV} {k0' : Value} {es : List (AV × AV)} {l : List MapEntry} {r : Option AV} {d : TypeDesc} (hu : P.underlying kt = some d) (hk : VRel j k0 k0') (hl : ∀ e ∈ l, ∃ p ∈ es, VRel j p.1 e.key) (he : afind (eqK P kt k0) es = some r) :
    Told P kt k0' w (ceq P kt k0' w) l := by
  have hall := afind_all he
  refine ⟨d, hu, ?_⟩
  cases hs : isScalar k0 with
  | true =>
    refine .inl fun e hel => ?_
    obtain ⟨p, hp, hr⟩ := hl e hel
    obtain ⟨b, hb⟩ := hall p hp
    obtain ⟨h1, d', hu', h2⟩ := eqK_sound (w := w) hk hr hb
    rw [hu] at hu'; cases hu'
    rw [eqK_ceq hk hr hb]
    rcases h2 with h2 | h2
    · exact h2.2
    · rw [hs] at h2; cases h2.1
  | false =>
    refine .inr ⟨fun e hel => ?_, fun e hel => ?_⟩
    · obtain ⟨p, hp, hr⟩ := hl e hel
      obtain ⟨b, hb⟩ := hall p hp
      obtain ⟨h1, d', hu', h2⟩ := eqK_sound (w := w) hk hr hb
      rw [hu] at hu'; cases hu'
      rcases h2 with h2 | h2
      · rw [hs] at h2; cases h2.1
      · exact h2.2
    · obtain ⟨p, hp, hr⟩ := hl e hel
      obtain ⟨b, hb⟩ := hall p hp
      rw [eqK_ceq hk hr hb]
      exact (eqK_sound (w := w) hk hr hb).1

/-! ## whether a key may be one -/
def ackeyFields (ck : TypeId → AV → Bool) (P : Program) (l : List AV) : List Field → Bool
  | [] => true
  | f :: fs => match decide (f.name ≠ "_") with
    | true => match apart P f.type l f.offset with
      | some a => match ck f.type a with
        | true => ackeyFields ck P l fs
        | false => false
      | none => false
    | false => ackeyFields ck P l fs
def ackey (P : Program) : Nat → TypeId → AV → Bool
  | 0, _, _ => false
  | n + 1, t, v => match v with
    | .int _ _ => match P.underlying t with
      | some (.int _) => true
      | _ => false
    | .str _ => match P.underlying t with
      | some .string => true
      | _ => false
    | .bool _ => match P.underlying t with
      | some .bool => true
      | _ => false
    | .agg l => match P.underlying t with
      | some (.struct fs) => ackeyFields (ackey P n) P l fs.toList
      | _ => false
    | _ => false

theorem ackey_sound (em : Bool) (d : Nat) : ∀ (n : Nat) (t : TypeId) (v : AV) (v' : Value), VRel j v v' → ackey P n t v = true → (Instr.checkKey em (n + d) t v').run P w = .ok () w := by
  intro n
  induction n with
  | zero => intro t v v' _ h; simp [ackey] at h
  | succ n ih =>
    intro t v v' hv h
    rw [show n + 1 + d = (n + d) + 1 by omega]
    unfold ackey at h
    split at h
    · split at h
      · rename_i hu; cases hv; simp [Instr.checkKey, run_underlying hu]
      · cases h
    · split at h
      · rename_i hu; cases hv; simp [Instr.checkKey, run_underlying hu]
      · cases h
    · split at h
      · rename_i hu; cases hv; simp [Instr.checkKey, run_underlying hu]
      · cases h
    · split at h
      · rename_i fs hu
        cases hv with
        | agg hl =>
          rename_i l l'
          simp only [Instr.checkKey, Sem.run_bind, run_underlying hu, Result.andThen_ok]
          rw [← Array.forIn_toList]
          generalize fs.toList = fl at h
          induction fl with
          | nil => simp
          | cons f fl ihf =>
            simp only [ackeyFields] at h
            simp only [List.forIn_cons, Sem.run_bind]
            split at h
            · rename_i hn
              have hn := of_decide_eq_true hn
              split at h
              · rename_i a ha
                split at h
                · rename_i hck
                  obtain ⟨a', h1, h2⟩ := apart_sound (w := w) hl ha
                  have h3 := ih _ _ _ h2 hck
                  rw [if_pos hn]
                  simp only [Sem.run_bind, h1, h3, Result.andThen_ok, Sem.run_pure]
                  exact ihf h
                · cases h
              · cases h
            · rename_i hn
              have hn := of_decide_eq_false hn
              rw [if_neg hn]
              simp only [Sem.run_pure, Result.andThen_ok]
              exact ihf h
      · cases h
    · cases h

/-! ## the operations -/
def alookup (P : Program) (H : AHeap) (t : TypeId) (m k : AV) (ok : Bool) : Option AV :=
  match P.underlying t with
  | some (.map kt e) => match ackey P 4 kt k with
    | true =>
      match (match m with
        | .map none => some (none : Option AV)
        | .map (some r) => match H.get r with
          | some (.map es) => afind (eqK P kt k) es
          | _ => none
        | _ => none : Option (Option AV)) with
      | some (some v) => match ok with
        | true => some (.tuple [v, .bool true])
        | false => some v
      | some none => match P.info? e with
        | some i => match i.zero with
          | some z => match ok with
            | true => some (.tuple [absv 8 z, .bool false])
            | false => some (absv 8 z)
          | none => none
        | none => none
      | none => none
    | false => none
  | _ => none

theorem run_getObjMap {r : Nat} {ents : Array MapEntry} {clock : Nat} (h : w.heap[r]? = some (.map ents clock)) : (getObj r).run P w = .ok (.map ents clock) w := by
  simp [getObj, Sem.run, h]

theorem underlying_of_ackey {n : Nat} {t : TypeId} {v : AV} (h : ackey P n t v = true) : ∃ d, P.underlying t = some d := by
  cases n with
  | zero => simp [ackey] at h
  | succ n =>
    unfold ackey at h
    split at h <;> (try (cases h; done)) <;> (split at h <;> first | exact ⟨_, by assumption⟩ | cases h)

theorem alookup_sound (h : Rel j H w) {t : TypeId} {m k z : AV} {m' k' : Value} {ok : Bool} (hm : VRel j m m') (hk : VRel j k k') (he : alookup P H t m k ok = some z) :
    ∃ z', (Instr.lookup t m' k' ok).run P w = .ok z' w ∧ VRel j z z' := by
  unfold alookup at he
  split at he
  · rename_i kt e hu
    split at he
    · rename_i hck
      have hck' := fun em => ackey_sound (w := w) em 9996 4 kt k k' hk hck
      obtain ⟨d, hd⟩ := underlying_of_ackey hck
      split at he
      · rename_i v hfound
        split at hfound
        · cases hfound
        · rename_i r
          split at hfound
          · rename_i es hg
            cases hm with
            | map hj =>
              rename_i R base0 n0
              obtain ⟨ents, clock, l, h1, h2, h3, _⟩ := h.objs _ _ _ hg hj
              have hmem : ∀ e ∈ ents.toList, ∃ p ∈ es, VRel j p.1 e.key := fun e hel => by
                obtain ⟨p, hp, hr, _⟩ := h3.mem e (h2.symm.subset hel)
                exact ⟨p, hp, hr⟩
              have htold := told_of (w := w) hd hk hmem hfound
              have hrel := afind_rel (c := ceq P kt k' w) h3 (fun p hp x hx => by
                obtain ⟨b, hb⟩ := afind_all hfound p hp
                exact .inl (by rw [hb, eqK_ceq hk hx hb])) hfound
              simp only at hrel
              obtain ⟨l1, e0, l2, q1, q2, q3, q4, q5, _⟩ := hrel
              obtain ⟨p1, e1, p2, r1, r2, r3⟩ := cfind_some (c := ceq P kt k' w) ents.toList 0 ⟨e0, h2.subset (by rw [q1]; simp), q2⟩
              rw [q1, r1] at h2
              obtain ⟨he1, _⟩ := one_place h2 r2 q4 q5
              have hfk := htold.run
              rw [r3] at hfk
              have hrun : (Instr.lookup t (.map (some R)) k' ok).run P w = .ok (if ok then .tuple #[e1.val, .bool true] else e1.val) w := by
                simp only [Instr.lookup, Sem.run_bind, run_underlying hu, Result.andThen_ok, run_getObjMap h1, Sem.run_pure]
                rw [hck']
                simp only [Result.andThen_ok, hfk, Sem.run_bind, Sem.run_pure]
              rw [← he1] at q3
              split at he
              · cases he
                exact ⟨_, hrun, by simpa using pair_tuple q3 (.bool true)⟩
              · cases he
                exact ⟨_, hrun, by simpa using q3⟩
          · cases hfound
        · cases hfound
      · rename_i hfound
        split at he
        · rename_i i hi
          split at he
          · rename_i zz hz
            have hrun : (Instr.lookup t m' k' ok).run P w = .ok (if ok then .tuple #[zz, .bool false] else zz) w := by
              split at hfound
              · cases hm
                have hn : (Instr.findKey kt k' []).run P w = .ok none w := by simp [Instr.findKey, run_underlying hd, Instr.findNow]
                simp only [Instr.lookup, Sem.run_bind, run_underlying hu, Result.andThen_ok, Sem.run_pure]
                rw [hck']
                simp only [Result.andThen_ok, hn, Sem.run_bind, Sem.run_pure, run_zeroA hi hz]
              · rename_i r
                split at hfound
                · rename_i es hg
                  cases hm with
                  | map hj =>
                    obtain ⟨ents, clock, l, h1, h2, h3, _⟩ := h.objs _ _ _ hg hj
                    have hmem : ∀ e ∈ ents.toList, ∃ p ∈ es, VRel j p.1 e.key := fun e hel => by
                      obtain ⟨p, hp, hr, _⟩ := h3.mem e (h2.symm.subset hel)
                      exact ⟨p, hp, hr⟩
                    have htold := told_of (w := w) hd hk hmem hfound
                    have hrel := afind_rel (c := ceq P kt k' w) h3 (fun p hp x hx => by
                      obtain ⟨b, hb⟩ := afind_all hfound p hp
                      exact .inl (by rw [hb, eqK_ceq hk hx hb])) hfound
                    simp only at hrel
                    have hfk := htold.run
                    rw [cfind_none _ _ (fun e hel => hrel e (h2.symm.subset hel))] at hfk
                    simp only [Instr.lookup, Sem.run_bind, run_underlying hu, Result.andThen_ok, run_getObjMap h1, Sem.run_pure]
                    rw [hck']
                    simp only [Result.andThen_ok, hfk, Sem.run_bind, Sem.run_pure, run_zeroA hi hz]
                · cases hfound
              · cases hfound
            split at he
            · cases he
              exact ⟨_, hrun, by simpa using pair_tuple (VRel.absv j 8 zz) (.bool false)⟩
            · cases he
              exact ⟨_, hrun, by simpa using VRel.absv j 8 zz⟩
          · cases he
        · cases he
      · cases he
    · cases he
  · cases he

def amakeMap (P : Program) (H : AHeap) (t : TypeId) (hint : Option AV) : Option (AV × AHeap) :=
  match hint with
  | none => some (.map (some H.next), H.alloc (.map []))
  | some (.int _ _) => match P.underlying t with
    | some (.map _ _) => some (.map (some H.next), H.alloc (.map []))
    | _ => none
  | _ => none

theorem amakeMap_sound (h : Rel j H w) {t : TypeId} {hint : Option AV} {hint' : Option Value} {r : AV × AHeap} (hh : ORelV j hint hint') (he : amakeMap P H t hint = some r) :
    ∃ x' w' j', (Instr.makeMap t hint').run P w = .ok x' w' ∧ VRel j' r.1 x' ∧ Rel j' r.2 w' ∧ Ext j H w j' r.2 w' ∧ ∃ sh o, r = (sh.mk H.next, H.alloc o) ∧ Made j w sh o x' w' := by
  have key := h.alloc (o := .map []) (obj := .map #[] 0) (base := 0) (n := 0) (by simp [AObj.olds]) ⟨#[], 0, [], by simp, by simp, trivial, by simp, by simp⟩
  have hres : r = (.map (some H.next), H.alloc (.map [])) ∧ (Instr.makeMap t hint').run P w = .ok (.map (some w.heap.size)) { w with heap := w.heap.push (.map #[] 0) } := by
    unfold amakeMap at he
    split at he
    · cases hh; cases he
      exact ⟨rfl, by simp [Instr.makeMap]⟩
    · cases hh with
      | some hv =>
        cases hv
        split at he
        · rename_i hu
          cases he
          exact ⟨rfl, by simp [Instr.makeMap, run_underlying hu, asInt, asIntOf]⟩
        · cases he
    · cases he
  obtain ⟨rfl, hrun⟩ := hres
  exact ⟨_, _, _, hrun, VRel.map (J.set_self _ _ _), key.1, key.2, .map, .map [], rfl, rfl, .map #[] 0, 0, rfl, fun j2 id hle hid => ⟨VRel.map hid, #[], 0, [], by simp, by simp, trivial, by simp, by simp⟩⟩

end Go.Ah
