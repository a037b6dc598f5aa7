/- Functions: what the evaluator answers, the model does. -/
import Derived.Test.YtcapeganlaibhaaGreatDoorAhDraw2
import Derived.Recover
set_option linter.unusedVariables false
set_option linter.unusedSimpArgs false
namespace Go.Ah

variable {P : Program} {j : J} {H : AHeap} {w : World}

inductive MRel (j : J) : AMode → FrameMode → Prop
  | returning : MRel j .returning .returning
  | panicking {c : AChain} {c' : List PanicEntry} (h : CRel j c c') : MRel j (.panicking c) (.panicking c')
theorem MRel.mono {j j' : J} (hj : j.le j') {u : AMode} {u' : FrameMode} (h : MRel j u u') : MRel j' u u' := by
  cases h with
  | returning => exact .returning
  | panicking h => exact .panicking (h.mono hj)
theorem MRel.settle {u : AMode} {u' : FrameMode} (h : MRel j u u') : MRel j (asettle u) (settle u') := by
  cases h with
  | returning => exact .returning
  | panicking h =>
    cases h with
    | nil => exact .panicking .nil
    | cons hv ht =>
      rename_i v v' b l l'
      cases b with
      | false => exact .panicking (.cons hv ht)
      | true =>
        have : ∀ {l : AChain} {l' : List PanicEntry}, CRel j l l' → l'.dropWhile (!·.goexit) = [] := by
          intro l l' h
          induction h with
          | nil => rfl
          | cons _ _ ih => simp only [List.dropWhile_cons, Bool.not_false, if_true]; exact ih
        simp only [asettle, Go.settle, this ht]
        exact .returning
theorem MRel.raised {u : AMode} {u' : FrameMode} {c : AChain} {c' : List PanicEntry} (h : MRel j u u') (hc : CRel j c c') : MRel j (araised u c) (raised u' c') := by
  cases h with
  | returning => exact .panicking hc
  | panicking h => exact .panicking (hc.append h)

def ACallsD (P : Program) (f : FuncId) (args : List AV) (u : AMode) (H : AHeap) (Q : AEnd → AMode → AHeap → Prop) : Prop :=
  canEnter P f = true ∧ ∀ j w args' u', Rel j H w → VRels j args args' → MRel j u u' →
    CallsD P f args'.toArray u' w fun e u2 w' => ∃ o um H' j', Q o um H' ∧ Rel j' H' w' ∧ ERel j' o e ∧ MRel j' um u2 ∧ Ext j H w j' H' w'

structure RecOk (P : Program) (R : RecG Prop) : Prop where
  call : ∀ f args H Q, R.call f args H Q → ACalls P f args H Q
  loop : ∀ n c K s, R.loop n c K s → ALoop P n c K s
  callD : ∀ f args u H Q, R.callD f args u H Q → ACallsD P f args u H Q

theorem evCode_sound (hmix : P.follows .mixedOrders = true) {R : RecG Prop} (hR : RecOk P R) {n : Nat} : ∀ (c : Code) (K : Kont) (s : St), evCode botP P R n c K s → ACode P n c K s
  | .skip, K, s, h => A_skip h
  | .label _, K, s, h => A_label h
  | .exit id, K, s, h => A_exit h
  | .goto l, K, s, h => A_goto h
  | .ret, K, s, h => A_ret h
  | .region _ ops false, K, s, h => A_region hR.call h
  | .region _ ops true, K, s, h => A_region_draw hmix hR.call h
  | .seq x y, K, s, h => by
    have := evCode_sound hmix hR x _ s h
    refine A_seq (this.mono fun e s' he => ?_)
    cases e with
    | normal => exact evCode_sound hmix hR y K s' he
    | exit id => exact he
    | goto l => exact he
    | ret => exact he
    | panic c => exact he
  | .cond c x y, K, s, h => by
    simp only [evCode] at h
    split at h
    · rename_i hc; exact A_cond hc (evCode_sound hmix hR x K s h)
    · rename_i hc; exact A_cond hc (evCode_sound hmix hR y K s h)
    · exact h.elim
  | .block id c, K, s, h => A_block (evCode_sound hmix hR c _ s h)
  | .scope c, K, s, h => A_scope (evCode_sound hmix hR c _ s h)
  | .loop c, K, s, h => A_loop (hR.loop n c K s h)
  | .rangeFunc .., K, s, h => h.elim
  | .refuse _, K, s, h => h.elim

theorem tmpsFrom_get : ∀ (l : List AV) (i : Nat) (T : Trie AV) (k : Nat), (tmpsFrom i l T).get k = if i ≤ k ∧ k < i + l.length then l[k - i]? else T.get k
  | [], i, T, k => by
    simp only [tmpsFrom, List.length_nil, Nat.add_zero]
    rw [if_neg (by omega)]
  | v :: l, i, T, k => by
    simp only [tmpsFrom, tmpsFrom_get l (i + 1), Trie.get_put, List.length_cons]
    by_cases h : k = i
    · subst h
      rw [if_neg (by omega), if_pos rfl, if_pos (by omega)]
      simp
    · by_cases h2 : i + 1 ≤ k ∧ k < i + 1 + l.length
      · rw [if_pos h2, if_pos (by omega)]
        rw [show k - i = (k - (i + 1)) + 1 by omega]
        simp
      · rw [if_neg h2, if_neg h, if_neg (by omega)]

theorem enter_rel {args : List AV} {args' : List Value} (h : VRels j args args') {n : Nat} (hn : args.length ≤ n) :
    TRel j n (tmpsFrom 0 args .leaf) (args'.toArray ++ Array.replicate (n - args'.toArray.size) undef) := by
  have hlen := h.length
  refine ⟨by simp; omega, fun i v hv => ?_⟩
  rw [tmpsFrom_get] at hv
  split at hv
  · rename_i hi
    simp only [Nat.sub_zero, Nat.zero_add] at hv hi
    obtain ⟨x, hx, hr⟩ := h.get hv
    have : (args'.toArray ++ Array.replicate (n - args'.toArray.size) undef).getD i undef = x := by
      rw [Array.getD_eq_getD_getElem?, Array.getElem?_append_left (by simp; omega)]
      simp [hx]
    rw [this]; exact hr
  · rw [Trie.get_leaf] at hv; cases hv

def resOf (tmps : Array Value) (x : ResultVar) : Sem Value :=
  match x with
  | .tmp t => pure (tmps.getD t undef)
  | .cell a t => do loadVar t (← asAddr (tmps.getD a undef))
theorem results_eq (fn : Func) (tmps : Array Value) : results fn tmps = (do
    let vs ← fn.results.mapM (resOf tmps)
    pure (if h : vs.size = 1 then vs[0] else .tuple vs)) := rfl

theorem ares_sound (h : Rel j H w) {n : Nat} {T : Trie AV} {tmps : Array Value} (ht : TRel j n T tmps) : ∀ (l : List ResultVar) (vs : List AV), ares P T H l = some vs →
    ∃ vs', (l.mapM (resOf tmps)).run P w = .ok vs' w ∧ VRels j vs vs'
  | [], vs, he => by
    simp only [ares, Option.some.injEq] at he
    subst he
    exact ⟨[], rfl, .nil⟩
  | .tmp t :: l, vs, he => by
    simp only [ares] at he
    split at he
    · rename_i v hv
      split at he
      · rename_i vs1 h1
        cases he
        obtain ⟨vs', g1, g2⟩ := ares_sound h ht l vs1 h1
        exact ⟨_, by simp only [List.mapM_cons, resOf, Sem.run_bind, Sem.run_pure, Result.andThen_ok]; rw [g1]; rfl, .cons (ht.get t v hv) g2⟩
      · cases he
    · cases he
  | .cell a t :: l, vs, he => by
    simp only [ares] at he
    split at he
    · rename_i p hp
      split at he
      · rename_i v hv
        split at he
        · rename_i vs1 h1
          cases he
          obtain ⟨vs', g1, g2⟩ := ares_sound h ht l vs1 h1
          obtain ⟨ad, x', hpx, r1, r2⟩ := aloadVar_sound (P := P) h (ht.get a p hp) hv
          have hA : asAddr (tmps.getD a undef) = pure ad := by rw [hpx]; rfl
          have hr : (resOf tmps (.cell a t)).run P w = .ok x' w := by simp only [resOf, hA, pure_bind, r1]
          exact ⟨_, by simp only [List.mapM_cons, Sem.run_bind, Sem.run_pure, Result.andThen_ok, hr, g1], .cons r2 g2⟩
        · cases he
      · cases he
    · cases he

theorem aresults_sound (h : Rel j H w) {n : Nat} {T : Trie AV} {tmps : Array Value} (ht : TRel j n T tmps) {fn : Func} {v : AV} (he : aresults P fn T H = some v) :
    ∃ v', (results fn tmps).run P w = .ok v' w ∧ VRel j v v' := by
  unfold aresults at he
  have key : ∀ vs, ares P T H fn.results.toList = some vs → ∃ vs' : List Value, (results fn tmps).run P w = .ok (if h : vs'.toArray.size = 1 then vs'.toArray[0] else .tuple vs'.toArray) w ∧ VRels j vs vs' := by
    intro vs hvs
    obtain ⟨vs', g1, g2⟩ := ares_sound (P := P) h ht _ vs hvs
    refine ⟨vs', ?_, g2⟩
    rw [results_eq, Array.mapM_eq_mapM_toList]
    simp only [Sem.run_bind, map_eq_pure_bind, g1, Result.andThen_ok, Sem.run_pure]
  split at he
  · rename_i x hx
    cases he
    obtain ⟨vs', g1, g2⟩ := key _ hx
    cases g2 with
    | cons h1 h2 => cases h2; exact ⟨_, g1, h1⟩
  · rename_i vs hne hvs
    cases he
    obtain ⟨vs', g1, g2⟩ := key _ hvs
    have hlen : vs'.toArray.size ≠ 1 := by
      have := g2.length
      intro hh
      have h1 : vs.length = 1 := by simpa [this] using hh
      obtain ⟨x, rfl⟩ := List.length_eq_one_iff.1 h1
      exact hne x rfl
    rw [dif_neg hlen] at g1
    exact ⟨_, g1, .tuple g2⟩
  · cases he

/-- the deferred calls -/
theorem evLeaves_sound {R : RecG Prop} (hR : RecOk P R) {fn : Func} {n : Nat} {T : Trie AV} {tmps : Array Value} {Q : AEnd → AHeap → Prop} {j0 : J} {H0 : AHeap} {w0 : World} :
    ∀ (ds : List ADef) (ds' : List Deferred) (u : AMode) (u' : FrameMode) (H : AHeap) (j : J) (w : World), Rel j H w → TRel j n T tmps → DRel j ds ds' → MRel j u u' → Ext j0 H0 w0 j H w →
      evLeaves botP P R fn T Q ds u H → Leaves P fn tmps (CallPost Q j0 H0 w0) ds' u' w
  | [], _, u, _, H, j, w, h, ht, hd, hu, E, he => by
    cases hd
    cases hu with
    | returning =>
      simp only [evLeaves] at he
      split at he
      · rename_i v hv
        obtain ⟨v', g1, g2⟩ := aresults_sound h ht hv
        exact ⟨v', g1, _, H, j, he, h, .ret g2, E⟩
      · exact he.elim
    | panicking hc => exact ⟨_, H, j, he, h, .panic hc, E⟩
  | d :: ds, _, u, u', H, j, w, h, ht, hd, hu, E, he => by
    cases hd with
    | cons ha hcap hds =>
      rename_i f args cap args' cap' ds'
      have hrun : u' ≠ .run := by cases hu <;> simp
      simp only [evLeaves] at he
      obtain ⟨c1, c2⟩ := hR.callD _ _ _ _ _ he
      refine ⟨hrun, .func f, cap'.toArray, f, (args' ++ cap').toArray, rfl, ?_, ?_⟩
      · have : args'.toArray ++ cap'.toArray = (args' ++ cap').toArray := by simp
        simp only [invoke, this]
        exact canEnter_run c1 _ _
      · intro c cs hm
        obtain ⟨e, u2, w', fr, ⟨o, um, H', j', q1, q2, q3, q4, q5⟩, r1, r2, r3⟩ := c2 j w _ u' h (ha.append hcap) hu c cs hm
        refine ⟨e, u2, w', fr, ?_, r1, r2, r3⟩
        cases q3 with
        | ret hv => exact evLeaves_sound hR ds ds' _ _ H' j' w' q2 (ht.mono q5.le) (hds.mono q5.le) q4.settle (E.trans q5) q1
        | panic hc => exact evLeaves_sound hR ds ds' _ _ H' j' w' q2 (ht.mono q5.le) (hds.mono q5.le) (q4.raised hc) (E.trans q5) q1

theorem evFun_sound (hmix : P.follows .mixedOrders = true) {R : RecG Prop} (hR : RecOk P R) {f : FuncId} {args : List AV} {H : AHeap} {Q : AEnd → AHeap → Prop} (h : evFun botP P R f args H Q) : ACalls P f args H Q := by
  unfold evFun at h
  split at h
  · exact h.elim
  · rename_i fn hf
    split at h
    · exact h.elim
    · rename_i c hb
      split at h
      · exact h.elim
      · rename_i hn
        intro j w args' hrel hargs
        refine calls_of_wp_defers hf hb (wp_mono (evCode_sound hmix hR c _ _ h j _ w hrel (enter_rel hargs (Nat.le_of_ble_eq_true hn)) .nil) ?_)
        rintro e a' w' ⟨x, s', j', k1, k2, k3, k4, k5, k6⟩
        cases k3 with
        | normal => exact evLeaves_sound hR _ _ _ _ _ j' w' k2 k4 k5 .returning k6 k1
        | ret => exact evLeaves_sound hR _ _ _ _ _ j' w' k2 k4 k5 .returning k6 k1
        | panic hc => exact evLeaves_sound hR _ _ _ _ _ j' w' k2 k4 k5 (.panicking hc) k6 k1
        | exit id => exact k1.elim
        | goto l => exact k1.elim

/-! ## code that recovers -/
def PostS (n : Nat) (K : KontS Prop) (j : J) (H : AHeap) (w : World) (c0 : Frame) (cs : List Frame) : Exit → Act → List Frame → World → Prop := fun e a' cs' w' =>
  ∃ x s' um j' u', K x s' um ∧ Rel j' s'.H w' ∧ XRel j' x e ∧ TRel j' n s'.T a'.tmps ∧ DRel j' s'.D a'.defers ∧ Ext j H w j' s'.H w' ∧ MRel j' um u' ∧ cs' = { c0 with mode := u' } :: cs

def ACodeS (P : Program) (n : Nat) (c : Code) (K : KontS Prop) (s : St) (u : AMode) : Prop :=
  ∀ j a w c0 cs u', Rel j s.H w → TRel j n s.T a.tmps → DRel j s.D a.defers → MRel j u u' → c.wpS P (PostS n K j s.H w c0 cs) a ({ c0 with mode := u' } :: cs) w

theorem wpS_mono {c : Code} {Q Q' : Exit → Act → List Frame → World → Prop} {a : Act} {cs : List Frame} (h : c.wpS P Q a cs w) (hq : ∀ e a cs w, Q e a cs w → Q' e a cs w) : c.wpS P Q' a cs w :=
  fun b k h1 h2 => let ⟨e, a', cs', w', q, r⟩ := h b k h1 h2; ⟨e, a', cs', w', hq _ _ _ _ q, r⟩

theorem ACodeS.of {n : Nat} {c : Code} {K : KontS Prop} {s : St} {u : AMode} (h : ACode P n c (fun x s => K x s u) s) : ACodeS P n c K s u := by
  intro j a w c0 cs u' h1 h2 h3 h4
  refine wpS_of_wp (wp_mono (h j a w h1 h2 h3) ?_)
  rintro e a' w' ⟨x, s', j', k1, k2, k3, k4, k5, k6⟩
  exact ⟨x, s', u, j', u', k1, k2, k3, k4, k5, k6, h4.mono k6.le, rfl⟩

theorem PostS.trans {n : Nat} {K : KontS Prop} {j j1 : J} {H H1 : AHeap} {w w1 : World} {c0 : Frame} {cs : List Frame} (h : Ext j H w j1 H1 w1) {e : Exit} {a : Act} {cs' : List Frame} {w2 : World} (p : PostS n K j1 H1 w1 c0 cs e a cs' w2) : PostS n K j H w c0 cs e a cs' w2 := by
  obtain ⟨x, s', um, j', u', k1, k2, k3, k4, k5, k6, k7, k8⟩ := p
  exact ⟨x, s', um, j', u', k1, k2, k3, k4, k5, h.trans k6, k7, k8⟩

theorem arecover_sound {u : AMode} {u' : FrameMode} (h : MRel j u u') (c0 : Frame) (cs : List Frame) :
    (∃ v' u2, recoverD ({ c0 with mode := u' } :: cs) = some (v', { c0 with mode := u2 } :: cs) ∧ VRel j (arecover u).1 v' ∧ MRel j (arecover u).2 u2) ∨
    (recoverD ({ c0 with mode := u' } :: cs) = none ∧ arecover u = (.nilIface, u)) := by
  cases h with
  | returning => exact .inr ⟨rfl, rfl⟩
  | panicking h =>
    cases h with
    | nil => exact .inr ⟨rfl, rfl⟩
    | cons hv ht =>
      rename_i b l l'
      cases b with
      | true => exact .inr ⟨rfl, rfl⟩
      | false => exact .inl ⟨_, _, rfl, hv, .panicking (.cons hv ht)⟩

theorem evOpsS_sound {call : CallK} {n : Nat} {ops : Array Oper} {K : KontS Prop} {j0 : J} {H0 : AHeap} {w0 : World} {c0 : Frame} {cs : List Frame} : ∀ (rest : List Oper) (i : Nat) (s : St) (u : AMode) (j : J) (a : Act) (w : World) (u' : FrameMode), ops.toList.drop i = rest →
    evOpsS botP P call n ops K rest s u → Rel j s.H w → TRel j n s.T a.tmps → DRel j s.D a.defers → MRel j u u' → Ext j0 H0 w0 j s.H w →
      wpOpsS P ops (PostS n K j0 H0 w0 c0 cs) ((List.range (ops.size - i)).map (· + i)) a ({ c0 with mode := u' } :: cs) w
  | [], i, s, u, j, a, w, u', hi, hev, h1, h2, h3, h4, h5 => by
    have : ops.size - i = 0 := by
      have := congrArg List.length hi
      simpa using this
    rw [this]
    exact ⟨.normal, s, u, j, u', hev, h1, .normal, h2, h3, h5, h4, rfl⟩
  | o :: rest, i, s, u, j, a, w, u', hi, hev, h1, h2, h3, h4, h5 => by
    have hlen : i < ops.size := by
      have := congrArg List.length hi
      simp only [List.length_drop, Array.length_toList, List.length_cons] at this
      omega
    have hoi : ops[i]? = some o := by
      have := congrArg (·[0]?) hi
      simpa using this
    have hrest : ops.toList.drop (i + 1) = rest := by
      have := congrArg List.tail hi
      simpa using this
    have hrng : (List.range (ops.size - i)).map (· + i) = i :: (List.range (ops.size - (i + 1))).map (· + (i + 1)) := by
      rw [show ops.size - i = (ops.size - (i + 1)) + 1 by omega, List.range_succ_eq_map]
      simp only [List.map_cons, List.map_map, Nat.zero_add]
      congr 1
      apply List.map_congr_left
      intro k _
      simp; omega
    rw [hrng]
    simp only [wpOpsS, hoi]
    have ih := fun (s : St) (u : AMode) (j : J) (a : Act) (w : World) (u' : FrameMode) => evOpsS_sound (n := n) (K := K) (call := call) (j0 := j0) (H0 := H0) (w0 := w0) (c0 := c0) (cs := cs) rest (i + 1) s u j a w u' hrest
    simp only [evOpsS] at hev
    split at hev
    · exact hev.elim
    · rename_i hg
      rw [if_neg (by rw [aguard_sound h2 hg]; simp)]
      obtain ⟨T', hk, ht⟩ := tput_rel h2 (undef_rel (j := j)) hev
      exact ih ⟨T', s.D, s.H⟩ u j _ w u' hk h1 ht (by rw [Act.put_defers]; exact h3) h4 h5
    · rename_i hg
      rw [if_pos (aguard_sound h2 hg)]
      have hs := aexec_sound (P := P) h1 h2 o
      split at hev
      · rename_i v H' hr
        rw [hr] at hs
        obtain ⟨v', w', j', g1, g2, g3, g4⟩ := hs
        obtain ⟨T', hk, ht⟩ := tput_rel (h2.mono g4.le) g2 hev
        have := ih ⟨T', s.D, H'⟩ u j' _ w' u' hk g3 ht (by rw [Act.put_defers]; exact h3.mono g4.le) (h4.mono g4.le) (h5.trans g4)
        rw [g1]
        exact this
      · rename_i H' hr
        rw [hr] at hs
        obtain ⟨w', j', g1, g3, g4⟩ := hs
        obtain ⟨T', hk, ht⟩ := tput_rel (h2.mono g4.le) (undef_rel (j := j')) hev
        have := ih ⟨T', s.D, H'⟩ u j' _ w' u' hk g3 ht (by rw [Act.put_defers]; exact h3.mono g4.le) (h4.mono g4.le) (h5.trans g4)
        rw [g1]
        exact this
      · rename_i hr
        rw [hr] at hs
        have hs' : (execOp a.eval o).run P w = .ok .recover w := hs
        rw [hs']
        rcases arecover_sound h4 c0 cs with ⟨v', u2, r1, r2, r3⟩ | ⟨r1, r2⟩
        · simp only [r1]
          generalize arecover u = q at hev r2 r3
          obtain ⟨T', hk, ht⟩ := tput_rel h2 r2 hev
          exact ih ⟨T', s.D, s.H⟩ _ j _ w u2 hk h1 ht (by rw [Act.put_defers]; exact h3) r3 h5
        · simp only [r1]
          rw [r2] at hev
          obtain ⟨T', hk, ht⟩ := tput_rel h2 (VRel.nilIface (j := j)) hev
          exact ih ⟨T', s.D, s.H⟩ _ j _ w u' hk h1 ht (by rw [Act.put_defers]; exact h3) h4 h5
      · exact hev.elim

theorem evCodeS_sound (hmix : P.follows .mixedOrders = true) {R : RecG Prop} (hR : RecOk P R) {n : Nat} : ∀ (c : Code) (K : KontS Prop) (s : St) (u : AMode), evCodeS botP P R n c K s u → ACodeS P n c K s u
  | .region id ops d, K, s, u, h => by
    simp only [evCodeS] at h
    split at h
    · split at h
      · exact h.elim
      · intro j a w c0 cs u' h1 h2 h3 h4
        have := evOpsS_sound (c0 := c0) (cs := cs) ops.toList 0 s u j a w u' rfl h h1 h2 h3 h4 (Ext.refl _ _ _)
        exact wpS_region (by simpa using this)
    · exact ACodeS.of (evCode_sound hmix hR _ _ s h)
  | .seq x y, K, s, u, h => by
    simp only [evCodeS] at h
    have hx := evCodeS_sound hmix hR x _ s u h
    intro j a w c0 cs u' h1 h2 h3 h4
    refine wpS_seq (wpS_mono (hx j a w c0 cs u' h1 h2 h3 h4) ?_)
    rintro e a' cs' w' ⟨x, s', um, j', u2, k1, k2, k3, k4, k5, k6, k7, rfl⟩
    cases k3 with
    | normal => exact wpS_mono (evCodeS_sound hmix hR y K s' um k1 j' a' w' c0 cs u2 k2 k4 k5 k7) fun _ _ _ _ p => p.trans k6
    | exit id => exact ⟨_, s', um, j', u2, k1, k2, .exit id, k4, k5, k6, k7, rfl⟩
    | goto l => exact ⟨_, s', um, j', u2, k1, k2, .goto l, k4, k5, k6, k7, rfl⟩
    | ret => exact ⟨_, s', um, j', u2, k1, k2, .ret, k4, k5, k6, k7, rfl⟩
    | panic hc => exact ⟨_, s', um, j', u2, k1, k2, .panic hc, k4, k5, k6, k7, rfl⟩
  | .cond c x y, K, s, u, h => by
    intro j a w c0 cs u' h1 h2 h3 h4
    have hv := aeval_rel h1 h2 c
    simp only [evCodeS] at h
    split at h
    · rename_i hc
      rw [hc] at hv
      have he : a.eval c = .bool true := by generalize hh : a.eval c = v at hv; cases hv; rfl
      exact wpS_cond he (evCodeS_sound hmix hR x K s u h j a w c0 cs u' h1 h2 h3 h4)
    · rename_i hc
      rw [hc] at hv
      have he : a.eval c = .bool false := by generalize hh : a.eval c = v at hv; cases hv; rfl
      exact wpS_cond he (evCodeS_sound hmix hR y K s u h j a w c0 cs u' h1 h2 h3 h4)
    · exact h.elim
  | .skip, K, s, u, h => ACodeS.of (evCode_sound hmix hR _ _ s h)
  | .label _, K, s, u, h => ACodeS.of (evCode_sound hmix hR _ _ s h)
  | .exit id, K, s, u, h => ACodeS.of (evCode_sound hmix hR _ _ s h)
  | .goto l, K, s, u, h => ACodeS.of (evCode_sound hmix hR _ _ s h)
  | .ret, K, s, u, h => ACodeS.of (evCode_sound hmix hR _ _ s h)
  | .refuse _, K, s, u, h => ACodeS.of (evCode_sound hmix hR _ _ s h)
  | .rangeFunc .., K, s, u, h => ACodeS.of (evCode_sound hmix hR _ _ s h)
  | .block id c, K, s, u, h => by
    simp only [evCodeS] at h
    split at h
    · exact h.elim
    · exact ACodeS.of (evCode_sound hmix hR _ _ s h)
  | .scope c, K, s, u, h => by
    simp only [evCodeS] at h
    split at h
    · exact h.elim
    · exact ACodeS.of (evCode_sound hmix hR _ _ s h)
  | .loop c, K, s, u, h => by
    simp only [evCodeS] at h
    split at h
    · exact h.elim
    · exact ACodeS.of (evCode_sound hmix hR _ _ s h)

theorem evFunD_sound (hmix : P.follows .mixedOrders = true) {R : RecG Prop} (hR : RecOk P R) {f : FuncId} {args : List AV} {u : AMode} {H : AHeap} {Q : AEnd → AMode → AHeap → Prop} (h : evFunD botP P R f args u H Q) : ACallsD P f args u H Q := by
  unfold evFunD at h
  split at h
  · exact h.elim
  rename_i fn hf
  split at h
  · exact h.elim
  rename_i c hb
  split at h
  · exact h.elim
  rename_i hn
  split at h
  · exact h.elim
  rename_i hce
  refine ⟨hce, fun j w args' u' hrel hargs hu => callsD_of_wpS hf hb fun c0 cs hm => ?_⟩
  have hc0 : ({ c0 with mode := u' } : Frame) = c0 := by cases c0; simp only at hm; subst hm; rfl
  have := evCodeS_sound hmix hR c _ _ u h j { tmps := args'.toArray ++ Array.replicate (fn.ntmps - args'.toArray.size) undef, defers := [] } w c0 cs u' hrel (enter_rel hargs (Nat.le_of_ble_eq_true hn)) .nil hu
  rw [hc0] at this
  refine wpS_mono this ?_
  rintro e a' cs' w' ⟨x, s', um, j', u2, k1, k2, k3, k4, k5, k6, k7, rfl⟩
  simp only at k1
  split at k1
  · rename_i hD
    rw [hD] at k5
    have hd : a'.defers = [] := by generalize a'.defers = l at k5; cases k5; rfl
    split at k1
    · cases k3
      split at k1
      · rename_i v hv
        obtain ⟨v', g1, g2⟩ := aresults_sound k2 k4 hv
        exact ⟨hd, u2, rfl, v', g1, _, um, s'.H, j', k1, k2, .ret g2, k7, k6⟩
      · exact k1.elim
    · cases k3
      split at k1
      · rename_i v hv
        obtain ⟨v', g1, g2⟩ := aresults_sound k2 k4 hv
        exact ⟨hd, u2, rfl, v', g1, _, um, s'.H, j', k1, k2, .ret g2, k7, k6⟩
      · exact k1.elim
    · cases k3 with
      | panic hc => exact ⟨hd, u2, rfl, _, um, s'.H, j', k1, k2, .panic hc, k7, k6⟩
    · exact k1.elim
  · exact k1.elim

theorem recN_ok (hmix : P.follows .mixedOrders = true) : ∀ f, RecOk P (recN botP P f)
  | 0 => ⟨fun _ _ _ _ h => h.elim, fun _ _ _ _ h => h.elim, fun _ _ _ _ _ h => h.elim⟩
  | f + 1 => ⟨fun _ _ _ _ h => evFun_sound hmix (recN_ok hmix f) h,
      fun n c K s h => A_round ((evCode_sound hmix (recN_ok hmix f) c _ s h).mono fun e s' he => by
        cases e with
        | normal => exact (recN_ok hmix f).loop n c K s' he
        | exit id => exact he
        | goto l => exact he
        | ret => exact he
        | panic c => exact he),
      fun _ _ _ _ _ h => evFunD_sound hmix (recN_ok hmix f) h⟩

end Go.Ah
