/- One operation. -/
import Derived.Test.YtcapeganlaibhaaGreatDoorAhMaps2
set_option linter.unusedVariables false
set_option linter.unusedSimpArgs false
namespace Go.Ah

variable {P : Program} {j : J} {H : AHeap} {w : World}

/-- the value of an operand -/
def aeval (H : AHeap) (T : Trie AV) : Operand → AV
  | .tmp t => match T.get t with
    | some v => v
    | none => .bad
  | .const v => absv 8 v
  | .global g => match Nat.blt g H.gn with
    | true => match H.get g with
      | some _ => .ptr (some (g, 0))
      | none => .bad
    | false => .bad
  | .func f => .func (.func f) [] []

structure TRel (j : J) (n : Nat) (T : Trie AV) (tmps : Array Value) : Prop where
  size : tmps.size = n
  get : ∀ i v, T.get i = some v → VRel j v (tmps.getD i undef)

theorem aeval_rel (h : Rel j H w) {n : Nat} {T : Trie AV} {a : Act} (ht : TRel j n T a.tmps) (x : Operand) : VRel j (aeval H T x) (a.eval x) := by
  cases x with
  | tmp t =>
    simp only [aeval, Act.eval]
    split
    · exact ht.get _ _ (by assumption)
    · exact .bad _
  | const v => exact VRel.absv j 8 v
  | global g =>
    simp only [aeval, Act.eval]
    split
    · rename_i hlt
      split
      · rename_i o ho
        obtain ⟨n', hn⟩ := h.glob g o (blt_true hlt) ho
        exact VRel.ptr (o := 0) hn
      · exact .bad _
    · exact .bad _
  | func f => exact VRel.func (f' := []) (c' := []) .nil .nil

inductive ORes where
  | val (v : AV) (H : AHeap)
  | skip (H : AHeap)
  | call (f : FuncId) (args : List AV)
  | defer (f : FuncId) (args cap : List AV)
  | panic (v : AV)
  | recover
  | stuck

/-- what the operation does in the model -/
def OSound (P : Program) (j : J) (H : AHeap) (w : World) (s : Sem Next) : ORes → Prop
  | .val v H' => ∃ v' w' j', s.run P w = .ok (.value v') w' ∧ VRel j' v v' ∧ Rel j' H' w' ∧ Ext j H w j' H' w'
  | .skip H' => ∃ w' j', s.run P w = .ok .skip w' ∧ Rel j' H' w' ∧ Ext j H w j' H' w'
  | .call f args => ∃ args', s.run P w = .ok (.enter f args'.toArray) w ∧ VRels j args args'
  | .defer f args cap => ∃ args' cap', s.run P w = .ok (.defer { target := .fn (.func f) (cap' : List Value).toArray, args := args'.toArray }) w ∧ VRels j args args' ∧ VRels j cap cap'
  | .panic v => ∃ v', s.run P w = .halt (.panic v') w ∧ VRel j v v'
  | .recover => s.run P w = .ok .recover w
  | .stuck => True

def ofV (H : AHeap) : Option AV → ORes
  | some v => .val v H
  | none => .stuck
def ofVH : Option (AV × AHeap) → ORes
  | some (v, H) => .val v H
  | none => .stuck
def ofH : Option AHeap → ORes
  | some H => .skip H
  | none => .stuck

theorem OSound.ofV (h : Rel j H w) {s : Sem Value} {r : Option AV} (hs : ∀ x, r = some x → ∃ x', s.run P w = .ok x' w ∧ VRel j x x') : OSound P j H w (do pure (.value (← s))) (ofV H r) := by
  cases r with
  | none => trivial
  | some x =>
    obtain ⟨x', h1, h2⟩ := hs x rfl
    exact ⟨x', w, j, by simp [h1], h2, h, Ext.refl _ _ _⟩
theorem OSound.ofVH {s : Sem Value} {r : Option (AV × AHeap)} (hs : ∀ x, r = some x → ∃ x' w' j', s.run P w = .ok x' w' ∧ VRel j' x.1 x' ∧ Rel j' x.2 w' ∧ Ext j H w j' x.2 w') : OSound P j H w (do pure (.value (← s))) (ofVH r) := by
  cases r with
  | none => trivial
  | some x =>
    obtain ⟨x', w', j', h1, h2, h3, h4⟩ := hs x rfl
    exact ⟨x', w', j', by simp [h1], h2, h3, h4⟩
theorem OSound.ofVH' {s : Sem Value} {r : Option (AV × AHeap)} {X : AV × AHeap → Value → World → Prop} (hs : ∀ x, r = some x → ∃ x' w' j', s.run P w = .ok x' w' ∧ VRel j' x.1 x' ∧ Rel j' x.2 w' ∧ Ext j H w j' x.2 w' ∧ X x x' w') : OSound P j H w (do pure (.value (← s))) (Ah.ofVH r) :=
  OSound.ofVH fun x hx => let ⟨x', w', j', h1, h2, h3, h4, _⟩ := hs x hx; ⟨x', w', j', h1, h2, h3, h4⟩
theorem OSound.ofH {s : Sem Unit} {r : Option AHeap} (hs : ∀ x, r = some x → ∃ w', s.run P w = .ok () w' ∧ Rel j x w' ∧ Ext j H w j x w') : OSound P j H w (do s; pure .skip) (ofH r) := by
  cases r with
  | none => trivial
  | some x =>
    obtain ⟨w', h1, h2, h3⟩ := hs x rfl
    exact ⟨w', j, by simp [h1], h2, h3⟩

def aevals (H : AHeap) (T : Trie AV) : List Operand → List AV
  | [] => []
  | x :: l => aeval H T x :: aevals H T l
theorem aevals_rel (h : Rel j H w) {n : Nat} {T : Trie AV} {a : Act} (ht : TRel j n T a.tmps) : ∀ (l : List Operand), VRels j (aevals H T l) (l.map a.eval)
  | [] => .nil
  | x :: l => .cons (aeval_rel h ht x) (aevals_rel h ht l)

def aparts (H : AHeap) (T : Trie AV) : List (Nat × Operand) → List (Nat × AV)
  | [] => []
  | (i, x) :: l => (i, aeval H T x) :: aparts H T l
theorem aparts_rel (h : Rel j H w) {n : Nat} {T : Trie AV} {a : Act} (ht : TRel j n T a.tmps) : ∀ (l : List (Nat × Operand)), PRels j (aparts H T l) (l.map fun p => (p.1, a.eval p.2))
  | [] => .nil
  | (i, x) :: l => .cons (aeval_rel h ht x) (aparts_rel h ht l)

/-- a function that has a body is entered -/
def canEnter (P : Program) (f : FuncId) : Bool :=
  match P.funcs[f]? with
  | some fn => fn.body.isSome && !(fn.name == "runtime.NumGoroutine")
  | none => false
theorem canEnter_run {f : FuncId} (h : canEnter P f = true) (args : Array Value) (w : World) : (callFunc f args).run P w = .ok (.enter f args) w := by
  unfold canEnter at h
  split at h
  · rename_i fn hf
    simp only [Bool.and_eq_true, Bool.not_eq_true', beq_eq_false_iff_ne, ne_eq] at h
    obtain ⟨h1, h2⟩ := h
    cases hb : fn.body with
    | none => rw [hb] at h1; cases h1
    | some c => simp [callFunc, hf, h2, hb]
  · cases h

def ocall (P : Program) (f : FuncId) (args : List AV) : ORes :=
  match canEnter P f with
  | true => .call f args
  | false => .stuck

/-- a method of the dynamic type, reached without a path -/
def amethod (P : Program) (H : AHeap) (t : TypeId) (v : AV) (name : String) : Option (FuncId × AV) :=
  match P.info? t with
  | some i => match i.methods.find? (·.name == name) with
    | some m => match m.path.toList, m.func, P.underlying t with
      | [], some (f, true), some (.pointer _) => some (f, v)
      | [], some (f, false), some (.pointer e) => match aload P H e v with
        | some x => some (f, x)
        | none => none
      | [], some (f, false), some _ => some (f, v)
      | _, _, _ => none
    | none => none
  | none => none

def afold2 (f : AV → AV → Option AV) : AV → List AV → Option AV
  | x, [] => some x
  | x, y :: l => match f x y with
    | some z => afold2 f z l
    | none => none
def amin2 : AV → AV → Option AV
  | .int k x, .int _ y => some (.int k (if y < x then y else x))
  | _, _ => none
def amax2 : AV → AV → Option AV
  | .int k x, .int _ y => some (.int k (if y > x then y else x))
  | _, _ => none

def abuiltin (P : Program) (H : AHeap) (b : Builtin) (ts : List TypeId) (args : List AV) : ORes :=
  match b, ts, args with
  | .append, [t, tx], [s, x] => ofVH (aappend P H t tx s x)
  | .len, [t], [x] => ofV H (alen P H t x)
  | .delete, [t, _], [m, k] => match adelete P H t m k with
    | some H' => .val (.tuple []) H'
    | none => .stuck
  | .min, _, x :: l => ofV H (afold2 amin2 x l)
  | .max, _, x :: l => ofV H (afold2 amax2 x l)
  | .panic, _, [.iface t v] => .panic (.iface t v)
  | .recover, _, [] => .recover
  | _, _, _ => .stuck

def acall (P : Program) (H : AHeap) (T : Trie AV) (c : Call) : ORes :=
  match c.callee with
  | .builtin b => abuiltin P H b c.argTypes.toList (aevals H T c.args.toList)
  | .value f => match aeval H T f with
    | .func (.func g) first cap => ocall P g (first ++ aevals H T c.args.toList ++ cap)
    | _ => .stuck
  | .invoke r name => match aeval H T r with
    | .iface t v => match amethod P H t v name with
      | some (f, rc) => ocall P f (rc :: aevals H T c.args.toList)
      | none => .stuck
    | _ => .stuck

def adefer (P : Program) (H : AHeap) (T : Trie AV) (c : Call) : ORes :=
  match c.callee with
  | .value f => match aeval H T f with
    | .func (.func g) first cap => .defer g (first ++ aevals H T c.args.toList) cap
    | _ => .stuck
  | _ => .stuck

def aopt (H : AHeap) (T : Trie AV) : Option Operand → Option AV
  | none => none
  | some x => some (aeval H T x)
theorem aopt_rel (h : Rel j H w) {n : Nat} {T : Trie AV} {a : Act} (ht : TRel j n T a.tmps) (x : Option Operand) : ORelV j (aopt H T x) (x.map a.eval) := by
  cases x with
  | none => exact .none
  | some x => exact .some (aeval_rel h ht x)

def aexec (P : Program) (H : AHeap) (T : Trie AV) (op : Op) : ORes :=
  match op with
  | .move x => .val (aeval H T x) H
  | .assign x => .val (aeval H T x) H
  | .pick c a b => match aeval H T c with
    | .bool true => .val (aeval H T a) H
    | .bool false => .val (aeval H T b) H
    | _ => .stuck
  | .alloc e => ofVH (aalloc P H e)
  | .box _ x => ofVH (abox H (aeval H T x))
  | .build t parts => ofV H (abuild P t (aparts H T parts.toList))
  | .buildSlice t len parts => ofVH (abuildSlice P H t len (aparts H T parts.toList))
  | .load t a => ofV H (aload P H t (aeval H T a))
  | .store t a x => ofH (astore P H t (aeval H T a) (aeval H T x))
  | .nilCheck x => ofV H (anilCheck (aeval H T x))
  | .binOp op t x y _ => ofV H (abin P op t x y (aeval H T x) (aeval H T y))
  | .unOp op _ x => ofV H (aun op (aeval H T x))
  | .convert s d x => ofVH (aconv P H s d (aeval H T x))
  | .makeInterface t x => ofV H (amakeIface P t (aeval H T x))
  | .makeFunc fn first cap => match fn with
    | .func g => .val (.func (.func g) (aevals H T first.toList) (aevals H T cap.toList)) H
    | _ => .stuck
  | .makeMap t r => ofVH (amakeMap P H t (aopt H T r))
  | .makeSlice t l c => ofVH (amakeSlice P H t (aeval H T l) (aeval H T c))
  | .slice t x lo hi mx => ofV H (aslice P t (aeval H T x) (aopt H T lo) (aopt H T hi) (aopt H T mx))
  | .fieldAddr t x f => ofV H (afieldAddr P t (aeval H T x) f)
  | .field t x f => ofV H (afield P t (aeval H T x) f)
  | .indexAddr t x i => ofV H (aindexAddr P t (aeval H T x) (aeval H T i))
  | .index t x i => ofV H (aindex P t (aeval H T x) (aeval H T i))
  | .lookup t x i ok => ofV H (alookup P H t (aeval H T x) (aeval H T i) ok)
  | .mapUpdate t m k x => ofH (amapUpdate P H t (aeval H T m) (aeval H T k) (aeval H T x))
  | .insert t m k x => ofH (amapUpdate P H t (aeval H T m) (aeval H T k) (aeval H T x))
  | .typeAssert x xt t ok => ofV H (atypeAssert P (aeval H T x) xt t ok)
  | .extract t i => ofV H (aextract (aeval H T t) i)
  | .call c => acall P H T c
  | .defer c => adefer P H T c
  | .panic x => match aeval H T x with
    | .iface t v => .panic (.iface t v)
    | _ => .stuck
  | _ => .stuck

theorem ocall_sound {f : FuncId} {args : List AV} {args' : List Value} (h : VRels j args args') : OSound P j H w (callFunc f args'.toArray) (ocall P f args) := by
  unfold ocall
  split
  · rename_i hc; exact ⟨args', canEnter_run hc _ _, h⟩
  · trivial

theorem wrapChk (ts : Array TypeId) (t : TypeId) (a : Addr) (x y : String) : Builtin.ssaWrapNilChk_ ts t #[.pointer (some a), strVal x, strVal y] = pure (.pointer (some a)) := rfl

theorem amethod_sound (h : Rel j H w) {t : TypeId} {v rc : AV} {v' : Value} {name : String} {f : FuncId} (hv : VRel j v v') (he : amethod P H t v name = some (f, rc)) (fuel : Nat) :
    ∃ rc', (Go.method (fuel + 1) t v' name).run P w = .ok (f, rc') w ∧ VRel j rc rc' := by
  unfold amethod at he
  split at he
  · rename_i i hi
    split at he
    · rename_i m hm
      split at he
      · rename_i g e hp hf hu
        cases he
        exact ⟨v', by simp [Go.method, run_typeInfoA hi, hm, hp, follow, hf, receiverAt, run_underlying hu, Place.get], hv⟩
      · rename_i g e hp hf hu
        split at he
        · rename_i x hx
          cases he
          obtain ⟨a, x', rfl, h1, h2⟩ := aloadVar_sound (P := P) h hv hx
          refine ⟨x', ?_, h2⟩
          have hpath : m.path = #[] := by apply Array.ext'; simpa using hp
          simp [Go.method, run_typeInfoA hi, hm, hp, follow, hf, receiverAt, run_underlying hu, Place.get, hpath, wrapChk, asAddr, h1]
        · cases he
      · rename_i g d hd hp hf hu
        cases he
        refine ⟨v', ?_, hv⟩
        simp only [Go.method, Sem.run_bind, run_typeInfoA hi, Result.andThen_ok, hm, hp, follow, Sem.run_pure, hf, receiverAt, run_underlying hu]
        have hne : ∀ e, d ≠ .pointer e := fun e he => by subst he; exact hd _ rfl
        cases d <;> first | exact absurd rfl (hne _) | simp [Place.get]
      · cases he
    · cases he
  · cases he


theorem afold2_sound {g : Value → Value → Sem Value} {f : AV → AV → Option AV} (hf : ∀ x y z x' y', f x y = some z → VRel j x x' → VRel j y y' → ∃ z', (g x' y').run P w = .ok z' w ∧ VRel j z z') :
    ∀ (l : List AV) (l' : List Value) (x z : AV) (x' : Value), VRel j x x' → VRels j l l' → afold2 f x l = some z → ∃ z', (l'.foldlM g x').run P w = .ok z' w ∧ VRel j z z'
  | [], _, x, z, x', hx, hl, he => by
    cases hl; simp only [afold2, Option.some.injEq] at he; subst he; exact ⟨x', rfl, hx⟩
  | y :: l, _, x, z, x', hx, hl, he => by
    cases hl with
    | cons hy ht =>
      simp only [afold2] at he
      split at he
      · rename_i z1 h1
        obtain ⟨z1', g1, g2⟩ := hf _ _ _ _ _ h1 hx hy
        obtain ⟨z', g3, g4⟩ := afold2_sound hf l _ z1 z z1' g2 ht he
        exact ⟨z', by simp [List.foldlM_cons, g1, g3], g4⟩
      · cases he

theorem abuiltin_sound (h : Rel j H w) {b : Builtin} {ts : Array TypeId} {ty : TypeId} {cs : Array Bool} {args : List AV} {args' : List Value} (ha : VRels j args args') :
    OSound P j H w (builtin b ts ty cs args'.toArray) (abuiltin P H b ts.toList args) := by
  have hts : ∀ {l : List TypeId}, ts.toList = l → ts = l.toArray := fun h => by rw [← h]
  unfold abuiltin
  split
  · rename_i t tx s x ht
    rw [hts ht]
    cases ha with
    | cons h1 ha => cases ha with
      | cons h2 ha =>
        cases ha
        exact OSound.ofVH fun r hr => aappend_sound h h1 h2 hr
  · rename_i t x ht
    rw [hts ht]
    cases ha with
    | cons h1 ha =>
      cases ha
      exact OSound.ofV h fun r hr => alen_sound h h1 hr
  · rename_i t t2 m k ht
    cases ha with
    | cons h1 ha => cases ha with
      | cons h2 ha =>
        cases ha
        split
        · rename_i H' hH
          obtain ⟨w', g1, g2, g3⟩ := adelete_sound h (ty := ty) h1 h2 hH (at_ := ts) (by rw [hts ht]; rfl)
          exact ⟨.tuple #[], w', j, by simp [builtin, g1], .tuple (l' := []) .nil, g2, g3⟩
        · trivial
  · rename_i x l
    cases ha with
    | cons h1 ha =>
      refine OSound.ofV h fun r hr => ?_
      exact afold2_sound (g := Builtin.min2) (fun x y z x' y' he hx hy => by
        unfold amin2 at he
        split at he
        · cases he; cases hx; cases hy; exact ⟨_, rfl, .int _ _⟩
        · cases he) l _ x r _ h1 ha hr
  · rename_i x l
    cases ha with
    | cons h1 ha =>
      refine OSound.ofV h fun r hr => ?_
      exact afold2_sound (g := Builtin.max2) (fun x y z x' y' he hx hy => by
        unfold amax2 at he
        split at he
        · cases he; cases hx; cases hy; exact ⟨_, rfl, .int _ _⟩
        · cases he) l _ x r _ h1 ha hr
  · rename_i t v
    cases ha with
    | cons h1 ha =>
      cases ha
      cases h1 with
      | iface hv => exact ⟨_, by simp [builtin, Instr.panic], .iface hv⟩
  · cases ha; rfl
  · trivial

theorem acall_sound (h : Rel j H w) {n : Nat} {T : Trie AV} {a : Act} (ht : TRel j n T a.tmps) (c : Call) (ty : TypeId) :
    OSound P j H w (do let d ← resolve a.eval c ty; invoke d.target d.args) (acall P H T c) := by
  have hargs := aevals_rel h ht c.args.toList
  have hmap : (c.args.toList.map a.eval).toArray = c.args.map a.eval := by apply Array.ext'; simp
  unfold acall
  split
  · rename_i b hc
    have := abuiltin_sound (P := P) h (b := b) (ts := c.argTypes) (ty := ty) (cs := c.args.map fun | .const _ => true | _ => false) hargs
    rw [hmap] at this
    simp only [resolve, hc, pure_bind, invoke]
    exact this
  · rename_i f hc
    have hf := aeval_rel h ht f
    split
    · rename_i g first cap hfe
      rw [hfe] at hf
      generalize hv : a.eval f = v at hf
      cases hf with
      | func h1 h2 =>
        rename_i first' cap'
        have := ocall_sound (P := P) (w := w) (H := H) (f := g) ((h1.append hargs).append h2)
        have hre : (do let d ← resolve a.eval c ty; invoke d.target d.args : Sem Next) = callFunc g (first' ++ List.map a.eval c.args.toList ++ cap').toArray := by
          simp only [resolve, hc, hv, Deferred.ofValue, pure_bind, invoke]
          congr 1
          apply Array.ext'; simp
        rw [hre]; exact this
    · trivial
  · rename_i r name hc
    have hf := aeval_rel h ht r
    split
    · rename_i t v hfe
      rw [hfe] at hf
      generalize hv : a.eval r = rv at hf
      cases hf with
      | iface hvv =>
        rename_i v'
        split
        · rename_i f rc hm
          obtain ⟨rc', g1, g2⟩ := amethod_sound (P := P) h hvv hm (P.types.size + Made.depth - 1)
          have hfuel : P.types.size + Made.depth - 1 + 1 = P.types.size + Made.depth := by unfold Made.depth; omega
          rw [hfuel] at g1
          have := ocall_sound (P := P) (w := w) (H := H) (f := f) (VRels.cons g2 hargs)
          have hr : (do let d ← resolve a.eval c ty; invoke d.target d.args : Sem Next).run P w = ((callFunc f (rc' :: List.map a.eval c.args.toList).toArray)).run P w := by
            have hext : (#[Value.iface t v'] ++ c.args.map a.eval).extract 1 (#[Value.iface t v'] ++ c.args.map a.eval).size = c.args.map a.eval := by
              apply Array.ext'; simp
              exact List.take_of_length_le (by simp)
            have h0 : (#[Value.iface t v'] ++ c.args.map a.eval)[0]? = some (.iface t v') := by rw [Array.getElem?_append_left (Nat.zero_lt_one)]; rfl
            have hfin : #[rc'] ++ c.args.map a.eval = (rc' :: List.map a.eval c.args.toList).toArray := by rw [← hmap]; apply Array.ext'; rw [Array.toList_append]; rfl
            simp only [resolve, hc, hv, pure_bind, invoke, h0, hext, callMethod, Sem.run_bind, run_program, Result.andThen_ok, g1, hfin]
          revert this
          unfold ocall
          split
          · rintro ⟨args', q1, q2⟩
            exact ⟨args', by rw [hr]; exact q1, q2⟩
          · exact fun h => h
        · trivial
    · trivial

theorem adefer_sound (h : Rel j H w) {n : Nat} {T : Trie AV} {a : Act} (ht : TRel j n T a.tmps) (c : Call) (ty : TypeId) :
    OSound P j H w (do pure (.defer (← resolve a.eval c ty))) (adefer P H T c) := by
  have hargs := aevals_rel h ht c.args.toList
  unfold adefer
  split
  · rename_i f hc
    have hf := aeval_rel h ht f
    split
    · rename_i g first cap hfe
      rw [hfe] at hf
      generalize hv : a.eval f = v at hf
      cases hf with
      | func h1 h2 =>
        rename_i first' cap'
        refine ⟨first' ++ List.map a.eval c.args.toList, cap', ?_, h1.append hargs, h2⟩
        simp [resolve, hc, hv, Deferred.ofValue]
    · trivial
  · trivial

theorem aexec_sound (h : Rel j H w) {n : Nat} {T : Trie AV} {a : Act} (ht : TRel j n T a.tmps) (o : Oper) : OSound P j H w (execOp a.eval o) (aexec P H T o.op) := by
  have E := fun x => aeval_rel h ht x
  have hpm : ∀ parts : Array (Nat × Operand), (parts.toList.map fun p => (p.1, a.eval p.2)).toArray = parts.map fun (i, x) => (i, a.eval x) := fun parts => by
    apply Array.ext'; simp
  unfold execOp
  cases ho : o.op <;> simp only [aexec] <;> (try trivial)
  case move x => exact ⟨_, w, j, rfl, E x, h, Ext.refl _ _ _⟩
  case assign x => exact ⟨_, w, j, rfl, E x, h, Ext.refl _ _ _⟩
  case pick c x y =>
    have hc := E c
    split
    · rename_i hce; rw [hce] at hc; generalize hv : a.eval c = v at hc; cases hc
      exact ⟨_, w, j, by simp [hv, asBool], E x, h, Ext.refl _ _ _⟩
    · rename_i hce; rw [hce] at hc; generalize hv : a.eval c = v at hc; cases hc
      exact ⟨_, w, j, by simp [hv, asBool], E y, h, Ext.refl _ _ _⟩
    · trivial
  case alloc e => exact OSound.ofVH' (X := fun x x' w' => ∃ sh o, x = (sh.mk H.next, H.alloc o) ∧ Made j w sh o x' w') fun r hr => aalloc_sound h hr
  case box e x => exact OSound.ofVH' (X := fun x x' w' => ∃ sh o, x = (sh.mk H.next, H.alloc o) ∧ Made j w sh o x' w') fun r hr => abox_sound h (E x) hr
  case build t parts =>
    rw [← hpm parts]
    exact OSound.ofV h fun r hr => abuild_sound (aparts_rel h ht parts.toList) hr
  case buildSlice t len parts =>
    rw [← hpm parts]
    exact OSound.ofVH' (X := fun x x' w' => ∃ sh o, x = (sh.mk H.next, H.alloc o) ∧ Made j w sh o x' w') fun r hr => abuildSlice_sound h (aparts_rel h ht parts.toList) hr
  case load t x => exact OSound.ofV h fun r hr => aload_sound h (E x) hr
  case store t x y => exact OSound.ofH fun r hr => astore_sound h (E x) (E y) hr
  case nilCheck x =>
    cases hr : anilCheck (aeval H T x) with
    | none => trivial
    | some z =>
      obtain ⟨z', h1, h2⟩ := anilCheck_sound (P := P) (w := w) (o := o) (ρ := a.eval) ho (E x) hr
      refine ⟨z', w, j, ?_, h2, h, Ext.refl _ _ _⟩
      rw [← h1]; unfold execOp; rw [ho]
  case binOp op t x y yt => exact OSound.ofV h fun r hr => abin_sound (E x) (E y) hr
  case unOp op t x => exact OSound.ofV h fun r hr => aun_sound (E x) hr
  case convert s d x => exact OSound.ofVH fun r hr => aconv_sound h (E x) hr
  case makeInterface t x => exact OSound.ofV h fun r hr => amakeIface_sound (E x) hr
  case makeFunc fn first cap =>
    cases fn <;> (try trivial)
    rename_i g
    have h1 := aevals_rel h ht first.toList
    have h2 := aevals_rel h ht cap.toList
    have := VRel.func (fn := .func g) h1 h2
    have hm : ∀ xs : Array Operand, (xs.toList.map a.eval).toArray = xs.map a.eval := fun xs => by apply Array.ext'; simp
    rw [hm, hm] at this
    exact ⟨_, w, j, by simp [Instr.makeFunc], this, h, Ext.refl _ _ _⟩
  case makeMap t r => exact OSound.ofVH' (X := fun x x' w' => ∃ sh o, x = (sh.mk H.next, H.alloc o) ∧ Made j w sh o x' w') fun q hq => amakeMap_sound h (aopt_rel h ht r) hq
  case makeSlice t l c => exact OSound.ofVH' (X := fun x x' w' => ∃ sh o, x = (sh.mk H.next, H.alloc o) ∧ Made j w sh o x' w') fun r hr => amakeSlice_sound h (E l) (E c) hr
  case slice t x lo hi mx => exact OSound.ofV h fun r hr => aslice_sound (E x) (aopt_rel h ht lo) (aopt_rel h ht hi) (aopt_rel h ht mx) hr
  case fieldAddr t x f => exact OSound.ofV h fun r hr => afieldAddr_sound (E x) hr
  case field t x f => exact OSound.ofV h fun r hr => afield_sound (E x) hr
  case indexAddr t x i => exact OSound.ofV h fun r hr => aindexAddr_sound (E x) (E i) hr
  case index t x i => exact OSound.ofV h fun r hr => aindex_sound (E x) (E i) hr
  case lookup t x i ok => exact OSound.ofV h fun r hr => alookup_sound h (E x) (E i) hr
  case mapUpdate t m k x => exact OSound.ofH fun r hr => amapUpdate_sound h (E m) (E k) (E x) hr
  case insert t m k x => exact OSound.ofH fun r hr => amapUpdate_sound h (E m) (E k) (E x) hr
  case typeAssert x xt t ok => exact OSound.ofV h fun r hr => atypeAssert_sound (E x) hr
  case extract t i => exact OSound.ofV h fun r hr => aextract_sound (E t) hr
  case call c => exact acall_sound h ht c o.type
  case defer c => exact adefer_sound h ht c o.type
  case panic x =>
    have hx := E x
    split
    · rename_i t v hxe
      rw [hxe] at hx
      generalize hv : a.eval x = xv at hx
      cases hx with
      | iface hvv => exact ⟨_, by simp [Instr.panic], .iface hvv⟩
    · trivial

end Go.Ah
