/- Code over the abstract heap: what a walk of it says, and the rules. -/
import Derived.Test.YtcapeganlaibhaaGreatDoorAhExec
import Derived.Scope
set_option linter.unusedVariables false
set_option linter.unusedSimpArgs false
namespace Go.Ah

variable {P : Program} {j : J} {H : AHeap} {w : World}

/-- a panic's entries: the value, whether it was recovered -/
abbrev AChain := List (AV × Bool)
inductive CRel (j : J) : AChain → List PanicEntry → Prop
  | nil : CRel j [] []
  | cons {v : AV} {v' : Value} {b : Bool} {l : AChain} {l' : List PanicEntry} (h : VRel j v v') (t : CRel j l l') : CRel j ((v, b) :: l) ({ v := v', recovered := b, goexit := false } :: l')
theorem CRel.mono {j j' : J} (hj : j.le j') : ∀ {l : AChain} {l' : List PanicEntry}, CRel j l l' → CRel j' l l'
  | _, _, .nil => .nil
  | _, _, .cons h t => .cons (h.mono hj) (CRel.mono hj t)
theorem CRel.append {a b : AChain} {a' b' : List PanicEntry} (h : CRel j a a') (k : CRel j b b') : CRel j (a ++ b) (a' ++ b') := by
  induction a generalizing a' with
  | nil => cases h; exact k
  | cons x a ih => cases h with | cons h t => exact .cons h (ih t)

structure ADef where
  f : FuncId
  args : List AV
  cap : List AV
inductive DRel (j : J) : List ADef → List Deferred → Prop
  | nil : DRel j [] []
  | cons {f : FuncId} {args cap : List AV} {args' cap' : List Value} {l : List ADef} {l' : List Deferred} (ha : VRels j args args') (hc : VRels j cap cap') (t : DRel j l l') :
      DRel j (⟨f, args, cap⟩ :: l) ({ target := .fn (.func f) cap'.toArray, args := args'.toArray } :: l')
theorem DRel.mono {j j' : J} (hj : j.le j') : ∀ {l : List ADef} {l' : List Deferred}, DRel j l l' → DRel j' l l'
  | _, _, .nil => .nil
  | _, _, .cons a c t => .cons (a.mono hj) (c.mono hj) (DRel.mono hj t)

structure St where
  T : Trie AV
  D : List ADef
  H : AHeap

inductive AX where
  | normal
  | exit (id : Nat)
  | goto (l : Nat)
  | ret
  | panic (c : AChain)
inductive XRel (j : J) : AX → Exit → Prop
  | normal : XRel j .normal .normal
  | exit (id : Nat) : XRel j (.exit id) (.exit id)
  | goto (l : Nat) : XRel j (.goto l) (.goto l)
  | ret : XRel j .ret .ret
  | panic {c : AChain} {c' : List PanicEntry} (h : CRel j c c') : XRel j (.panic c) (.panic c')

inductive AEnd where
  | ret (v : AV)
  | panic (c : AChain)
inductive ERel (j : J) : AEnd → Ending → Prop
  | ret {v : AV} {v' : Value} (h : VRel j v v') : ERel j (.ret v) (.returned v')
  | panic {c : AChain} {c' : List PanicEntry} (h : CRel j c c') : ERel j (.panic c) (.panicked c')

theorem TRel.mono {j j' : J} (hj : j.le j') {n : Nat} {T : Trie AV} {t : Array Value} (h : TRel j n T t) : TRel j' n T t := ⟨h.size, fun i v hv => (h.get i v hv).mono hj⟩

/-- what comes behind: an answer of a kind `α` -/
abbrev KontG (α : Type) := AX → St → α
abbrev Kont := KontG Prop
abbrev botP : String → Prop := fun _ => False

/-- what is known behind a piece of code that began at j, H, w -/
def Post (n : Nat) (K : Kont) (j : J) (H : AHeap) (w : World) : Exit → Act → World → Prop := fun e a' w' =>
  ∃ x s' j', K x s' ∧ Rel j' s'.H w' ∧ XRel j' x e ∧ TRel j' n s'.T a'.tmps ∧ DRel j' s'.D a'.defers ∧ Ext j H w j' s'.H w'

def ACode (P : Program) (n : Nat) (c : Code) (K : Kont) (s : St) : Prop :=
  ∀ j a w, Rel j s.H w → TRel j n s.T a.tmps → DRel j s.D a.defers → c.wp P (Post n K j s.H w) a w

/-- a round of a loop is about to begin -/
def ALoop (P : Program) (n : Nat) (c : Code) (K : Kont) (s : St) : Prop :=
  ∀ j a w, Rel j s.H w → TRel j n s.T a.tmps → DRel j s.D a.defers → ∀ (b : Frame) (k : List Item) (cs : List Frame),
    ∃ e a' w', Post n K j s.H w e a' w' ∧ Arrives P (lone (b.at a (.code c :: .inLoop c :: k)) cs w) b k cs e a' w'

def CallPost (Q : AEnd → AHeap → Prop) (j : J) (H : AHeap) (w : World) : Ending → World → Prop := fun e w' =>
  ∃ o H' j', Q o H' ∧ Rel j' H' w' ∧ ERel j' o e ∧ Ext j H w j' H' w'

def ACalls (P : Program) (f : FuncId) (args : List AV) (H : AHeap) (Q : AEnd → AHeap → Prop) : Prop :=
  ∀ j w args', Rel j H w → VRels j args args' → Calls P f args'.toArray w (CallPost Q j H w)

theorem Post.trans {n : Nat} {K : Kont} {j j1 : J} {H H1 : AHeap} {w w1 : World} (h : Ext j H w j1 H1 w1) {e : Exit} {a : Act} {w2 : World} (p : Post n K j1 H1 w1 e a w2) : Post n K j H w e a w2 := by
  obtain ⟨x, s', j', h1, h2, h3, h4, h5, h6⟩ := p
  exact ⟨x, s', j', h1, h2, h3, h4, h5, h.trans h6⟩

theorem Post.mono {n : Nat} {K K' : Kont} (hk : ∀ x s, K x s → K' x s) {j : J} {H : AHeap} {w : World} {e : Exit} {a : Act} {w2 : World} (p : Post n K j H w e a w2) : Post n K' j H w e a w2 := by
  obtain ⟨x, s', j', h1, h⟩ := p
  exact ⟨x, s', j', hk _ _ h1, h⟩

theorem ACode.mono {n : Nat} {c : Code} {K K' : Kont} {s : St} (hk : ∀ x s, K x s → K' x s) (h : ACode P n c K s) : ACode P n c K' s :=
  fun j a w h1 h2 h3 => wp_mono (h j a w h1 h2 h3) fun _ _ _ p => p.mono hk

theorem ACalls.mono {f : FuncId} {args : List AV} {Q Q' : AEnd → AHeap → Prop} (hq : ∀ o H, Q o H → Q' o H) (h : ACalls P f args H Q) : ACalls P f args H Q' :=
  fun j w args' h1 h2 => (h j w args' h1 h2).mono fun _ _ ⟨o, H', j', q, r⟩ => ⟨o, H', j', hq _ _ q, r⟩

/-- less may be known in front -/
theorem ACode.of_wp {n : Nat} {c : Code} {K : Kont} {s : St} (h : ∀ j a w, Rel j s.H w → TRel j n s.T a.tmps → DRel j s.D a.defers → c.wp P (Post n K j s.H w) a w) : ACode P n c K s := h

/-! ## rules -/
def kthen {α : Type} (K1 : St → α) (K : KontG α) : KontG α
  | .normal, s => K1 s
  | x, s => K x s

theorem A_skip {n : Nat} {K : Kont} {s : St} (h : K .normal s) : ACode P n .skip K s :=
  fun j a w h1 h2 h3 => wp_skip ⟨.normal, s, j, h, h1, .normal, h2, h3, Ext.refl _ _ _⟩
theorem A_label {n l : Nat} {K : Kont} {s : St} (h : K .normal s) : ACode P n (.label l) K s :=
  fun j a w h1 h2 h3 => wp_label ⟨.normal, s, j, h, h1, .normal, h2, h3, Ext.refl _ _ _⟩
theorem A_exit {n id : Nat} {K : Kont} {s : St} (h : K (.exit id) s) : ACode P n (.exit id) K s :=
  fun j a w h1 h2 h3 => wp_exit ⟨.exit id, s, j, h, h1, .exit id, h2, h3, Ext.refl _ _ _⟩
theorem A_goto {n l : Nat} {K : Kont} {s : St} (h : K (.goto l) s) : ACode P n (.goto l) K s :=
  fun j a w h1 h2 h3 => wp_goto ⟨.goto l, s, j, h, h1, .goto l, h2, h3, Ext.refl _ _ _⟩
theorem A_ret {n : Nat} {K : Kont} {s : St} (h : K .ret s) : ACode P n .ret K s :=
  fun j a w h1 h2 h3 => wp_ret ⟨.ret, s, j, h, h1, .ret, h2, h3, Ext.refl _ _ _⟩

theorem A_seq {n : Nat} {x y : Code} {K : Kont} {s : St} (h : ACode P n x (kthen (fun s => ACode P n y K s) K) s) : ACode P n (.seq x y) K s := by
  intro j a w h1 h2 h3
  refine wp_seq (wp_mono (h j a w h1 h2 h3) ?_)
  rintro e a' w' ⟨x, s', j', hk, r1, r2, r3, r4, r5⟩
  cases r2 with
  | normal => exact wp_mono (hk j' a' w' r1 r3 r4) fun _ _ _ p => p.trans r5
  | exit id => exact ⟨_, s', j', hk, r1, .exit id, r3, r4, r5⟩
  | goto l => exact ⟨_, s', j', hk, r1, .goto l, r3, r4, r5⟩
  | ret => exact ⟨_, s', j', hk, r1, .ret, r3, r4, r5⟩
  | panic hc => exact ⟨_, s', j', hk, r1, .panic hc, r3, r4, r5⟩

theorem A_cond {n : Nat} {c : Operand} {x y : Code} {K : Kont} {s : St} {b : Bool} (hc : aeval s.H s.T c = .bool b) (h : match b with | true => ACode P n x K s | false => ACode P n y K s) : ACode P n (.cond c x y) K s := by
  intro j a w h1 h2 h3
  have hv := aeval_rel h1 h2 c
  rw [hc] at hv
  have he : a.eval c = .bool b := by generalize hh : a.eval c = v at hv; cases hv; rfl
  cases b with
  | true => exact wp_cond he (h j a w h1 h2 h3)
  | false => exact wp_cond he (h j a w h1 h2 h3)

def kblock {α : Type} (id : Nat) (K : KontG α) : KontG α
  | .exit id', s => match Nat.beq id' id with
    | true => K .normal s
    | false => K (.exit id') s
  | x, s => K x s

theorem A_block {n id : Nat} {c : Code} {K : Kont} {s : St} (h : ACode P n c (kblock id K) s) : ACode P n (.block id c) K s := by
  intro j a w h1 h2 h3
  refine wp_block (wp_mono (h j a w h1 h2 h3) ?_)
  rintro e a' w' ⟨x, s', j', hk, r1, r2, r3, r4, r5⟩
  cases r2 with
  | normal => exact ⟨_, s', j', hk, r1, .normal, r3, r4, r5⟩
  | exit id' =>
    simp only [kblock] at hk
    simp only [Exit.inBlock]
    split at hk
    · rename_i hb
      rw [if_pos (Nat.eq_of_beq_eq_true hb)]
      exact ⟨_, s', j', hk, r1, .normal, r3, r4, r5⟩
    · rename_i hb
      rw [if_neg (Nat.ne_of_beq_eq_false hb)]
      exact ⟨_, s', j', hk, r1, .exit id', r3, r4, r5⟩
  | goto l => exact ⟨_, s', j', hk, r1, .goto l, r3, r4, r5⟩
  | ret => exact ⟨_, s', j', hk, r1, .ret, r3, r4, r5⟩
  | panic hc => exact ⟨_, s', j', hk, r1, .panic hc, r3, r4, r5⟩

def kscope {α : Type} (bot : String → α) (K : KontG α) : KontG α
  | .goto _, _ => bot "goto in a scope"
  | x, s => K x s
theorem A_scope {n : Nat} {c : Code} {K : Kont} {s : St} (h : ACode P n c (kscope botP K) s) : ACode P n (.scope c) K s := by
  intro j a w h1 h2 h3
  refine wp_scope_straight (wp_mono (h j a w h1 h2 h3) ?_)
  rintro e a' w' ⟨x, s', j', hk, r1, r2, r3, r4, r5⟩
  cases r2 with
  | normal => exact ⟨_, s', j', hk, r1, .normal, r3, r4, r5⟩
  | exit id' => exact ⟨_, s', j', hk, r1, .exit _, r3, r4, r5⟩
  | goto l => exact hk.elim
  | ret => exact ⟨_, s', j', hk, r1, .ret, r3, r4, r5⟩
  | panic hc => exact ⟨_, s', j', hk, r1, .panic hc, r3, r4, r5⟩

theorem A_loop {n : Nat} {c : Code} {K : Kont} {s : St} (h : ALoop P n c K s) : ACode P n (.loop c) K s := by
  intro j a w h1 h2 h3 b k cs
  obtain ⟨e, a', w', p, q⟩ := h j a w h1 h2 h3 b k cs
  exact ⟨e, a', w', p, .of_steps (.one step_loop) q⟩

theorem A_round {n : Nat} {c : Code} {K : Kont} {s : St} (h : ACode P n c (kthen (fun s => ALoop P n c K s) K) s) : ALoop P n c K s := by
  intro j a w h1 h2 h3 b k cs
  obtain ⟨e, a', w', p, q⟩ := h j a w h1 h2 h3 b (.inLoop c :: k) cs
  obtain ⟨x, s', j', hk, r1, r2, r3, r4, r5⟩ := p
  cases r2 with
  | normal =>
    obtain ⟨e2, a2, w2, p2, q2⟩ := hk j' a' w' r1 r3 r4 b k cs
    exact ⟨e2, a2, w2, p2.trans r5, .of_steps (Steps.trans q (.one step_inLoop)) q2⟩
  | exit id => exact ⟨_, a', w', ⟨_, s', j', hk, r1, .exit id, r3, r4, r5⟩, .pass (x := .inLoop c) rfl (fun _ _ => .inl (by simp)) q⟩
  | goto l => exact ⟨_, a', w', ⟨_, s', j', hk, r1, .goto l, r3, r4, r5⟩, .pass (x := .inLoop c) rfl (fun _ _ => .inl (by simp)) q⟩
  | ret => exact ⟨_, a', w', ⟨_, s', j', hk, r1, .ret, r3, r4, r5⟩, .pass (x := .inLoop c) rfl (fun _ _ => .inl (by simp)) q⟩
  | panic hc => exact ⟨_, a', w', ⟨_, s', j', hk, r1, .panic hc, r3, r4, r5⟩, .pass (x := .inLoop c) rfl (fun _ _ => .inl (by simp)) q⟩

/-! ## operations in the order of the text -/
/-- whether an operation behind a guard is carried out -/
def aguard (ops : Array Oper) (T : Trie AV) (o : Oper) : Option Bool :=
  match o.guard with
  | none => some true
  | some (i, want) => match ops[i]? with
    | some g => match g.dst with
      | some d => match T.get d with
        | some (.bool b) => some (b == want)
        | some (.tuple []) => some false
        | _ => none
      | none => none
    | none => none

def tput {α : Type} (bot : String → α) (n : Nat) (T : Trie AV) (dst : Option Tmp) (v : AV) (k : Trie AV → α) : α :=
  match dst with
  | none => k T
  | some d => match Nat.blt d n with
    | true => k (T.put d (some v))
    | false => bot "no such tmp"

theorem TRel.put {n : Nat} {T : Trie AV} {a : Act} (h : TRel j n T a.tmps) {d : Nat} {v : AV} {x : Value} (hd : d < n) (hv : VRel j v x) : TRel j n (T.put d (some v)) (a.put (some d) x).tmps := by
  refine ⟨by simp [Act.put, h.size], fun i u hu => ?_⟩
  rw [Trie.get_put] at hu
  simp only [Act.put]
  split at hu
  · rename_i hi; subst hi; cases hu
    have : (a.tmps.setIfInBounds i x).getD i undef = x := by
      simp [Array.getD, h.size, hd]
    rw [this]; exact hv
  · rename_i hi
    have := h.get i u hu
    have he : (a.tmps.setIfInBounds d x).getD i undef = a.tmps.getD i undef := by
      simp only [Array.getD_eq_getD_getElem?]
      rw [Array.getElem?_setIfInBounds_ne (by omega)]
    rw [he]; exact this

theorem Act.put_defers (a : Act) (d : Option Tmp) (v : Value) : (a.put d v).defers = a.defers := by cases d <;> rfl

theorem tput_rel {n : Nat} {T : Trie AV} {a : Act} (h : TRel j n T a.tmps) {dst : Option Tmp} {v : AV} {x : Value} (hv : VRel j v x) {k : Trie AV → Prop} (hk : tput botP n T dst v k) : ∃ T', k T' ∧ TRel j n T' (a.put dst x).tmps := by
  cases dst with
  | none => exact ⟨T, hk, h⟩
  | some d =>
    simp only [tput] at hk
    split at hk
    · exact ⟨_, hk, h.put (blt_true (by assumption)) hv⟩
    · exact hk.elim

abbrev CallKG (α : Type) := FuncId → List AV → AHeap → (AEnd → AHeap → α) → α
abbrev CallK := CallKG Prop

def undefA : AV := .tuple []
theorem undef_rel : VRel j undefA undef := .tuple (l' := []) .nil

/-- the operations from a place on -/
def evOps {α : Type} (bot : String → α) (P : Program) (call : CallKG α) (n : Nat) (ops : Array Oper) (K : KontG α) : List Oper → St → α
  | [], s => K .normal s
  | o :: rest, s => match aguard ops s.T o with
    | none => bot "guard"
    | some false => tput bot n s.T o.dst undefA fun T => evOps bot P call n ops K rest ⟨T, s.D, s.H⟩
    | some true => match aexec P s.H s.T o.op with
      | .val v H => tput bot n s.T o.dst v fun T => evOps bot P call n ops K rest ⟨T, s.D, H⟩
      | .skip H => tput bot n s.T o.dst undefA fun T => evOps bot P call n ops K rest ⟨T, s.D, H⟩
      | .call f args => call f args s.H fun e H => match e with
        | .ret v => tput bot n s.T o.dst v fun T => evOps bot P call n ops K rest ⟨T, s.D, H⟩
        | .panic c => K (.panic c) ⟨s.T, s.D, H⟩
      | .defer f args cap => tput bot n s.T o.dst undefA fun T => evOps bot P call n ops K rest ⟨T, ⟨f, args, cap⟩ :: s.D, s.H⟩
      | .panic v => K (.panic [(v, false)]) s
      | .recover => bot "recover"
      | .stuck => bot "operation"

theorem aguard_sound {ops : Array Oper} {n : Nat} {T : Trie AV} {a : Act} {o : Oper} {b : Bool} (h : TRel j n T a.tmps) (he : aguard ops T o = some b) : Region.wanted o (yielded ops a.tmps) = b := by
  unfold aguard at he
  unfold Region.wanted
  split at he
  · rename_i hg; cases he; rw [hg]
  · rename_i i want hg
    rw [hg]
    split at he
    · rename_i g hgi
      split at he
      · rename_i d hd
        have hval : ∀ v, T.get d = some v → v ≠ .tuple [] ∨ v = .tuple [] := fun v _ => by by_cases hh : v = .tuple [] <;> simp [hh]
        split at he
        · rename_i bb hb
          cases he
          have := h.get d _ hb
          generalize hx : a.tmps.getD d undef = x at this
          cases this
          have hx2 : a.tmps[d]? = some (.bool bb) := by
            rw [Array.getD_eq_getD_getElem?] at hx
            cases hh : a.tmps[d]? with
            | none => rw [hh] at hx; simp [undef] at hx
            | some y => rw [hh] at hx; simp at hx; rw [hx]
          simp only [yielded, hgi, Option.bind_some, hd, hx2]
          cases bb <;> cases want <;> rfl
        · rename_i hb
          cases he
          have := h.get d _ hb
          generalize hx : a.tmps.getD d undef = x at this
          cases this with
          | tuple hl =>
            cases hl
            have hx2 : a.tmps[d]? = some (.tuple (List.toArray [])) ∨ a.tmps[d]? = none := by
              rw [Array.getD_eq_getD_getElem?] at hx
              cases hh : a.tmps[d]? with
              | none => exact .inr rfl
              | some y => rw [hh] at hx; simp at hx; rw [hx]; exact .inl rfl
            rcases hx2 with hx2 | hx2 <;> simp [yielded, hgi, hd, hx2]
        · cases he
      · cases he
    · cases he

/-- what an operation does, and what the rest asks -/
theorem evOps_sound {call : CallK} (hcall : ∀ f args H Q, call f args H Q → ACalls P f args H Q) {n : Nat} {ops : Array Oper} {K : Kont} : ∀ (rest : List Oper) (i : Nat) (s : St) (j : J) (a : Act) (w : World), ops.toList.drop i = rest →
    evOps botP P call n ops K rest s → Rel j s.H w → TRel j n s.T a.tmps → DRel j s.D a.defers → wpOps P ops (Post n K j s.H w) ((List.range (ops.size - i)).map (· + i)) a w
  | [], i, s, j, a, w, hi, hev, h1, h2, h3 => by
    have : ops.size - i = 0 := by
      have := congrArg List.length hi
      simpa using this
    rw [this]
    exact ⟨.normal, s, j, hev, h1, .normal, h2, h3, Ext.refl _ _ _⟩
  | o :: rest, i, s, j, a, w, hi, hev, h1, h2, h3 => by
    have hlen : i < ops.size := by
      have := congrArg List.length hi
      simp only [List.length_drop, Array.length_toList, List.length_cons] at this
      omega
    have hoi : ops[i]? = some o := by
      have := congrArg (·[0]?) hi
      simpa using this
    have hrest : ops.toList.drop (i + 1) = rest := by
      have := congrArg List.tail hi
      simpa using this
    have hrng : (List.range (ops.size - i)).map (· + i) = i :: (List.range (ops.size - (i + 1))).map (· + (i + 1)) := by
      rw [show ops.size - i = (ops.size - (i + 1)) + 1 by omega, List.range_succ_eq_map]
      simp only [List.map_cons, List.map_map, Nat.zero_add]
      congr 1
      apply List.map_congr_left
      intro k _
      simp; omega
    rw [hrng]
    simp only [wpOps, hoi]
    have ih := fun (s : St) (j : J) (a : Act) (w : World) => evOps_sound hcall (n := n) (K := K) rest (i + 1) s j a w hrest
    simp only [evOps] at hev
    split at hev
    · exact hev.elim
    · rename_i hg
      rw [if_neg (by rw [aguard_sound h2 hg]; simp)]
      obtain ⟨T', hk, ht⟩ := tput_rel h2 (undef_rel (j := j)) hev
      exact ih ⟨T', s.D, s.H⟩ j _ w hk h1 ht (by rw [Act.put_defers]; exact h3)
    · rename_i hg
      rw [if_pos (aguard_sound h2 hg)]
      refine .inl ?_
      unfold Oper.wp
      have hs := aexec_sound (P := P) h1 h2 o
      -- the rest, begun later
      have later : ∀ (s1 : St) (j1 : J) (a1 : Act) (w1 : World), evOps botP P call n ops K rest s1 → Rel j1 s1.H w1 → TRel j1 n s1.T a1.tmps → DRel j1 s1.D a1.defers → Ext j s.H w j1 s1.H w1 →
          wpOps P ops (Post n K j s.H w) ((List.range (ops.size - (i + 1))).map (· + (i + 1))) a1 w1 := by
        intro s1 j1 a1 w1 e1 r1 r2 r3 r4
        have := ih s1 j1 a1 w1 e1 r1 r2 r3
        have mono : ∀ (l : List Nat) (Q Q' : Exit → Act → World → Prop), (∀ e a w, Q e a w → Q' e a w) → ∀ a w, wpOps P ops Q l a w → wpOps P ops Q' l a w := by
          intro l Q Q' hq
          induction l with
          | nil => intro a w h; exact hq _ _ _ h
          | cons i l ihl =>
            intro a w h
            simp only [wpOps] at h ⊢
            split at h
            · exact ihl a w h
            · rename_i o' ho'
              split at h
              · rename_i hw
                rw [if_pos hw]
                rcases h with h | ⟨h, h'⟩
                · refine .inl ?_
                  unfold Oper.wp at h ⊢
                  generalize (execOp a.eval o').run P w = r at h ⊢
                  cases r with
                  | ok x w1 => cases x <;> simp only [Oper.upon] at h ⊢ <;> first
                    | exact ihl _ _ h
                    | exact h
                    | (refine h.mono fun e w2 he => ?_
                       cases e with
                       | returned v => exact ihl _ _ he
                       | panicked chain => exact hq _ _ _ he
                       | outgrown => obtain ⟨a0, w0, h0⟩ := he; exact ⟨a0, w0, hq _ _ _ h0⟩)
                    | exact h.mono fun v w2 he => ihl _ _ he
                  | halt x w1 => cases x <;> simp only [Oper.upon] at h ⊢ <;> first | exact hq _ _ _ h | exact h
                · obtain ⟨a0, w0, h0⟩ := h'
                  exact .inr ⟨h, a0, w0, hq _ _ _ h0⟩
              · rename_i hw
                rw [if_neg hw]
                exact ihl _ _ h
        exact mono _ _ _ (fun e a w p => p.trans r4) _ _ this
      split at hev
      · rename_i v H' hr
        rw [hr] at hs
        obtain ⟨v', w', j', g1, g2, g3, g4⟩ := hs
        rw [g1, Oper.upon_value]
        obtain ⟨T', hk, ht⟩ := tput_rel (h2.mono g4.le) g2 hev
        exact later ⟨T', s.D, H'⟩ j' _ w' hk g3 ht (by rw [Act.put_defers]; exact h3.mono g4.le) g4
      · rename_i H' hr
        rw [hr] at hs
        obtain ⟨w', j', g1, g3, g4⟩ := hs
        rw [g1, Oper.upon_skip]
        obtain ⟨T', hk, ht⟩ := tput_rel (h2.mono g4.le) (undef_rel (j := j')) hev
        exact later ⟨T', s.D, H'⟩ j' _ w' hk g3 ht (by rw [Act.put_defers]; exact h3.mono g4.le) g4
      · rename_i f args hr
        rw [hr] at hs
        obtain ⟨args', g1, g2⟩ := hs
        rw [g1, Oper.upon_enter]
        refine (hcall _ _ _ _ hev j w args' h1 g2).mono ?_
        rintro e w' ⟨o1, H', j', q, r1, r2, r3⟩
        cases r2 with
        | ret hv =>
          obtain ⟨T', hk, ht⟩ := tput_rel (h2.mono r3.le) hv q
          exact later ⟨T', s.D, H'⟩ j' _ w' hk r1 ht (by rw [Act.put_defers]; exact h3.mono r3.le) r3
        | panic hc => exact ⟨_, ⟨s.T, s.D, H'⟩, j', q, r1, .panic hc, h2.mono r3.le, h3.mono r3.le, r3⟩
      · rename_i f args cap hr
        rw [hr] at hs
        obtain ⟨args', cap', g1, g2, g3⟩ := hs
        rw [g1, Oper.upon_defer]
        have h2' : TRel j n s.T ({ a with defers := { target := .fn (.func f) cap'.toArray, args := args'.toArray } :: a.defers } : Act).tmps := h2
        obtain ⟨T', hk, ht⟩ := tput_rel h2' (undef_rel (j := j)) hev
        exact later ⟨T', ⟨f, args, cap⟩ :: s.D, s.H⟩ j _ w hk h1 ht (by rw [Act.put_defers]; exact .cons g2 g3 h3) (Ext.refl _ _ _)
      · rename_i v hr
        rw [hr] at hs
        obtain ⟨v', g1, g2⟩ := hs
        rw [g1, Oper.upon_panic]
        exact ⟨_, s, j, hev, h1, .panic (.cons g2 .nil), h2, h3, Ext.refl _ _ _⟩
      · exact hev.elim
      · exact hev.elim

theorem A_region {call : CallK} (hcall : ∀ f args H Q, call f args H Q → ACalls P f args H Q) {n id : Nat} {ops : Array Oper} {K : Kont} {s : St} (h : evOps botP P call n ops K ops.toList s) : ACode P n (.region id ops false) K s := by
  intro j a w h1 h2 h3
  have := evOps_sound hcall ops.toList 0 s j a w rfl h h1 h2 h3
  exact wp_region (by simpa using this)

end Go.Ah
