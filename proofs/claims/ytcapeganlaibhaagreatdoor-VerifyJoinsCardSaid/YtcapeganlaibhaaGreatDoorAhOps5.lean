/- More operations that only compute; operations that make rows. -/
import Derived.Test.YtcapeganlaibhaaGreatDoorAhOps4
set_option linter.unusedVariables false
set_option linter.unusedSimpArgs false
namespace Go.Ah

variable {P : Program} {j : J} {H : AHeap} {w : World}

def aun (op : UnOp) (x : AV) : Option AV :=
  match x with
  | .int k n => pureOf (Op.unary op (.int k n))
  | .bool b => match op with
    | .not => some (.bool (!b))
    | _ => none
  | _ => none
theorem aun_sound {op : UnOp} {x z : AV} {x' : Value} (hx : VRel j x x') (he : aun op x = some z) : ∃ z', (Op.unary op x').run P w = .ok z' w ∧ VRel j z z' := by
  unfold aun at he
  split at he
  · cases hx; exact pureOf_sound he
  · cases hx
    split at he
    · cases he; exact ⟨_, rfl, .bool _⟩
    · cases he
  · cases he

def amakeIface (P : Program) (t : TypeId) (x : AV) : Option AV :=
  match P.underlying t with
  | some (.interface _) => none
  | some _ => some (.iface t x)
  | none => none
theorem amakeIface_sound {t : TypeId} {x z : AV} {x' : Value} (hx : VRel j x x') (he : amakeIface P t x = some z) : ∃ z', (Instr.makeInterface t x').run P w = .ok z' w ∧ VRel j z z' := by
  unfold amakeIface at he
  split at he
  · cases he
  · rename_i d hd hu
    cases he
    refine ⟨_, ?_, .iface hx⟩
    simp only [Instr.makeInterface, Sem.run_bind, run_underlying hu, Result.andThen_ok]
    cases d <;> first | rfl | exact absurd rfl (hd _)
  · cases he

def aextract (x : AV) (i : Nat) : Option AV :=
  match x with
  | .tuple l => l[i]?
  | _ => none
theorem aextract_sound {x z : AV} {x' : Value} {i : Nat} (hx : VRel j x x') (he : aextract x i = some z) : ∃ z', (Instr.extract x' i).run P w = .ok z' w ∧ VRel j z z' := by
  unfold aextract at he
  split at he
  · cases hx with
    | tuple h =>
      obtain ⟨z', h1, h2⟩ := h.get he
      exact ⟨z', by simp [Instr.extract, h1], h2⟩
  · cases he

/-- a panic's value in the model's own words -/
def nilDerefV (P : Program) : AV := .iface P.rt.errorString (.str "invalid memory address or nil pointer dereference".toUTF8.data.toList)

def anilCheck (x : AV) : Option AV :=
  match x with
  | .ptr (some _) => some x
  | .map _ => some x
  | .slice _ _ _ _ => some x
  | .iface _ _ => some x
  | .func (.func _) _ _ => some x
  | _ => none
theorem anilCheck_sound {o : Oper} {ρ : Operand → Value} {y : Operand} {x z : AV} (ho : o.op = .nilCheck y) (hx : VRel j x (ρ y)) (he : anilCheck x = some z) :
    ∃ z', (execOp ρ o).run P w = .ok (.value z') w ∧ VRel j z z' := by
  refine ⟨ρ y, ?_, ?_⟩
  · unfold execOp; rw [ho]
    unfold anilCheck at he
    split at he <;> (try (cases he; done)) <;> (simp only; generalize ρ y = v at hx ⊢; cases hx <;> rfl)
  · unfold anilCheck at he
    split at he <;> cases he <;> exact hx

def atypeAssert (P : Program) (x : AV) (xt at_ : TypeId) (ok : Bool) : Option AV :=
  match P.underlying at_ with
  | none => none
  | some (.interface want) => match x with
    | .nilIface => match ok with
      | true => match P.info? at_ with
        | some i => match i.zero with
          | some z => some (.tuple [absv 8 z, .bool false])
          | none => none
        | none => none
      | false => none
    | .iface t v => match P.info? t with
      | some it => match Instr.missingMethod want it.methods with
        | none => match ok with
          | true => some (.tuple [x, .bool true])
          | false => some x
        | some _ => match ok with
          | true => match P.info? at_ with
            | some i => match i.zero with
              | some z => some (.tuple [absv 8 z, .bool false])
              | none => none
            | none => none
          | false => none
      | none => none
    | _ => none
  | some _ => match x with
    | .nilIface => match ok with
      | true => match P.info? at_ with
        | some i => match i.zero with
          | some z => some (.tuple [absv 8 z, .bool false])
          | none => none
        | none => none
      | false => none
    | .iface t v => match Nat.beq t at_ with
      | true => match ok with
        | true => some (.tuple [v, .bool true])
        | false => some v
      | false => match ok with
        | true => match P.info? at_ with
          | some i => match i.zero with
            | some z => some (.tuple [absv 8 z, .bool false])
            | none => none
          | none => none
        | false => none
    | _ => none

theorem pair_tuple {a b : AV} {a' b' : Value} (h1 : VRel j a a') (h2 : VRel j b b') : VRel j (.tuple [a, b]) (.tuple #[a', b']) := .tuple (l' := [a', b']) (.cons h1 (.cons h2 .nil))

theorem run_zeroA {t : TypeId} {i : TypeInfo} {z : Value} (hi : P.info? t = some i) (hz : i.zero = some z) (w : World) : (zeroValue t).run P w = .ok z w := by
  simp [zeroValue, run_typeInfoA hi, hz]

theorem atypeAssert_sound {x z : AV} {x' : Value} {xt at_ : TypeId} {ok : Bool} (hx : VRel j x x') (he : atypeAssert P x xt at_ ok = some z) : ∃ z', (Instr.typeAssert x' xt at_ ok).run P w = .ok z' w ∧ VRel j z z' := by
  unfold atypeAssert at he
  split at he
  · cases he
  · rename_i want hu
    split at he
    · cases hx
      split at he
      · split at he
        · rename_i i hi
          split at he
          · rename_i zz hz
            cases he
            exact ⟨_, by first | (simp [Instr.typeAssert, run_underlying hu, run_zeroA hi hz]; done) | (simp [Instr.typeAssert, run_underlying hu, run_zeroA hi hz]; rfl), pair_tuple (VRel.absv _ _ _) (.bool _)⟩
          · cases he
        · cases he
      · cases he
    · rename_i t v
      cases hx with
      | iface hv =>
        split at he
        · rename_i it hit
          split at he
          · rename_i hm
            split at he
            · cases he
              exact ⟨_, by first | (simp [Instr.typeAssert, run_underlying hu, run_typeInfoA hit, hm]; done) | (simp [Instr.typeAssert, run_underlying hu, run_typeInfoA hit, hm]; rfl), pair_tuple (.iface hv) (.bool _)⟩
            · cases he
              exact ⟨_, by first | (simp [Instr.typeAssert, run_underlying hu, run_typeInfoA hit, hm]; done) | (simp [Instr.typeAssert, run_underlying hu, run_typeInfoA hit, hm]; rfl), .iface hv⟩
          · rename_i mm hm
            split at he
            · split at he
              · rename_i i hi
                split at he
                · rename_i zz hz
                  cases he
                  exact ⟨_, by first | (simp [Instr.typeAssert, run_underlying hu, run_typeInfoA hit, hm, run_zeroA hi hz]; done) | (simp [Instr.typeAssert, run_underlying hu, run_typeInfoA hit, hm, run_zeroA hi hz]; rfl), pair_tuple (VRel.absv _ _ _) (.bool _)⟩
                · cases he
              · cases he
            · cases he
        · cases he
    · cases he
  · rename_i d hd hu
    have hu' : ∀ (K : TypeDesc → Sem Value), ((underlying at_) >>= K).run P w = (K d).run P w := fun K => by simp [run_underlying hu]
    split at he
    · cases hx
      split at he
      · split at he
        · rename_i i hi
          split at he
          · rename_i zz hz
            cases he
            refine ⟨.tuple #[zz, .bool false], ?_, pair_tuple (VRel.absv _ _ _) (.bool _)⟩
            unfold Instr.typeAssert
            rw [hu']
            cases d <;> first | exact absurd rfl (hd _) | simp [run_zeroA hi hz]
          · cases he
        · cases he
      · cases he
    · rename_i t v
      cases hx with
      | iface hv =>
        rename_i v'
        split at he
        · rename_i ht
          have ht := Nat.eq_of_beq_eq_true ht; subst ht
          split at he
          · cases he
            refine ⟨.tuple #[v', .bool true], ?_, pair_tuple hv (.bool _)⟩
            unfold Instr.typeAssert
            rw [hu']
            cases d <;> first | exact absurd rfl (hd _) | simp
          · cases he
            refine ⟨v', ?_, hv⟩
            unfold Instr.typeAssert
            rw [hu']
            cases d <;> first | exact absurd rfl (hd _) | simp
        · rename_i ht
          have ht := Nat.ne_of_beq_eq_false ht
          split at he
          · split at he
            · rename_i i hi
              split at he
              · rename_i zz hz
                cases he
                refine ⟨.tuple #[zz, .bool false], ?_, pair_tuple (VRel.absv _ _ _) (.bool _)⟩
                unfold Instr.typeAssert
                rw [hu']
                cases d <;> first | exact absurd rfl (hd _) | simp [ht, run_zeroA hi hz]
              · cases he
            · cases he
          · cases he
    · cases he

/-- a value that is a new object -/
inductive Sh where
  | ptr
  | slice (len sz : Nat) (f : Bool)
  | map
def Sh.mk : Sh → Nat → AV
  | .ptr, b => .ptr (some (b, 0))
  | .slice l s f, b => .slice (some (b, 0)) l s f
  | .map, b => .map (some b)


/-- a new block was made, and nothing else: what it is at any number -/
def Made (j : J) (w : World) (sh : Sh) (o : AObj) (v : Value) (w' : World) : Prop :=
  o.olds = [] ∧ ∃ obj n, w' = { w with heap := w.heap.push obj } ∧ ∀ (j2 : J) (id : Nat), j.le j2 → j2 id = some (w.heap.size, 0, n) → VRel j2 (sh.mk id) v ∧ ORel j2 o (w.heap.size, 0, n) w'

theorem ORel.newRow {j : J} {w : World} {cells : List AV} {cs : Array Value} (E : TypeId) (hc : VRels j cells cs.toList) {j2 : J} (hle : j.le j2) :
    ORel j2 (.row true [] cells) (w.heap.size, 0, cs.size) { w with heap := w.heap.push (.cells cs E) } :=
  ⟨cs, E, (0, 0), by simp, by simp, by simp [hc.length], fun i v hv => by
    obtain ⟨x, hx, hr⟩ := hc.get hv
    exact ⟨x, by simpa using hx, hr.mono hle⟩, fun _ i _ => by simp⟩

/-! ## new rows -/
def anew (H : AHeap) (cells : List AV) : AV × AHeap := (.ptr (some (H.next, 0)), H.alloc (.row true [] cells))

theorem anew_sound (h : Rel j H w) {cells : List AV} {cs : Array Value} (E : TypeId) (hc : VRels j cells cs.toList) :
    ∃ a w' j', (newRow E cs).run P w = .ok a w' ∧ VRel j' (anew H cells).1 (.pointer (some a)) ∧ j' H.next = some (a.block, 0, cs.size) ∧ a = ⟨a.block, 0, none⟩ ∧ Rel j' (anew H cells).2 w' ∧ Ext j H w j' (anew H cells).2 w' ∧ a.block = w.heap.size ∧ w' = { w with heap := w.heap.push (.cells cs E) } := by
  obtain ⟨j', h1, h2, h3⟩ := h.newRow E hc
  refine ⟨⟨w.heap.size, 0, none⟩, _, j', by simp [newRow], ?_, h1, rfl, h2, h3, rfl, rfl⟩
  exact VRel.ptr (o := 0) h1

theorem madeRow {a : Addr} {w' : World} {cells : List AV} {cs : Array Value} {E : TypeId} (h6 : a = ⟨a.block, 0, none⟩) (h7 : a.block = w.heap.size) (h8 : w' = { w with heap := w.heap.push (.cells cs E) }) (hc : VRels j cells cs.toList) :
    Made j w .ptr (.row true [] cells) (.pointer (some a)) w' := by
  refine ⟨rfl, _, cs.size, h8, fun j2 id hle hid => ⟨?_, by rw [h8]; exact ORel.newRow E hc hle⟩⟩
  rw [h6, h7]
  exact VRel.ptr (o := 0) hid

def aalloc (P : Program) (H : AHeap) (t : TypeId) : Option (AV × AHeap) :=
  match P.info? t with
  | some i => match i.zero with
    | some z => match (absv 8 z).cells? with
      | some l => some (anew H l)
      | none => none
    | none => none
  | none => none
theorem aalloc_sound (h : Rel j H w) {t : TypeId} {r : AV × AHeap} (he : aalloc P H t = some r) :
    ∃ v' w' j', (Instr.alloc t true (.tuple #[])).run P w = .ok v' w' ∧ VRel j' r.1 v' ∧ Rel j' r.2 w' ∧ Ext j H w j' r.2 w' ∧ ∃ sh o, r = (sh.mk H.next, H.alloc o) ∧ Made j w sh o v' w' := by
  unfold aalloc at he
  split at he
  · rename_i i hi
    split at he
    · rename_i z hz
      split at he
      · rename_i l hl
        cases he
        obtain ⟨a, w', j', h1, h2, _, h6, h3, h4, h7, h8⟩ := anew_sound (P := P) h t ((VRel.absv j 8 z).cells hl)
        refine ⟨_, w', j', ?_, h2, h3, h4, .ptr, _, rfl, madeRow h6 h7 h8 ((VRel.absv j 8 z).cells hl)⟩
        simp only [Instr.alloc, Sem.run_bind, run_zeroA hi hz, Result.andThen_ok, newVar, h1, Sem.run_pure]
      · cases he
    · cases he
  · cases he

def abox (H : AHeap) (v : AV) : Option (AV × AHeap) :=
  match v.cells? with
  | some l => some (anew H l)
  | none => none
theorem abox_sound (h : Rel j H w) {t : TypeId} {v : AV} {v' : Value} {r : AV × AHeap} (hv : VRel j v v') (he : abox H v = some r) :
    ∃ x' w' j', (Instr.box t v').run P w = .ok x' w' ∧ VRel j' r.1 x' ∧ Rel j' r.2 w' ∧ Ext j H w j' r.2 w' ∧ ∃ sh o, r = (sh.mk H.next, H.alloc o) ∧ Made j w sh o x' w' := by
  unfold abox at he
  split at he
  · rename_i l hl
    cases he
    obtain ⟨a, w', j', h1, h2, _, h6, h3, h4, h7, h8⟩ := anew_sound (P := P) h t (hv.cells hl)
    exact ⟨_, w', j', by simp only [Instr.box, newVar, Sem.run_bind, h1, Result.andThen_ok, Sem.run_pure], h2, h3, h4, .ptr, _, rfl, madeRow h6 h7 h8 (hv.cells hl)⟩
  · cases he

/-! ## structs that are built -/
def afill (place : Nat → Option (Nat × Nat)) : List AV → List (Nat × AV) → Option (List AV)
  | cells, [] => some cells
  | cells, (i, v) :: rest => match place i with
    | none => none
    | some (off, size) => match v.cells? with
      | none => none
      | some l => match Nat.beq l.length size && Nat.ble (off + l.length) cells.length with
        | true => afill place (cells.take off ++ l ++ cells.drop (off + l.length)) rest
        | false => none

inductive PRels (j : J) : List (Nat × AV) → List (Nat × Value) → Prop
  | nil : PRels j [] []
  | cons {i : Nat} {v : AV} {v' : Value} {l : List (Nat × AV)} {l' : List (Nat × Value)} (h : VRel j v v') (t : PRels j l l') : PRels j ((i, v) :: l) ((i, v') :: l')

theorem foldl_set (off : Nat) : ∀ (l : List Value) (k : Nat) (c : Array Value), (l.zipIdx k).foldl (fun cs (x : Value × Nat) => cs.setIfInBounds (off + x.2) x.1) c = setRange c (off + k) l
  | [], _, _ => rfl
  | v :: l, k, c => by
    simp only [List.zipIdx_cons, List.foldl_cons, setRange]
    rw [foldl_set off l (k + 1)]; rfl

theorem splice_list {cells vs : List AV} {vs' : List Value} {c : Array Value} {p : Nat} (hc : VRels j cells c.toList) (hvs : VRels j vs vs') (hp : p + vs.length ≤ cells.length) :
    VRels j (cells.take p ++ vs ++ cells.drop (p + vs.length)) (setRange c p vs').toList := by
  have hl := hc.length
  have hl2 := hvs.length
  simp only [Array.length_toList] at hl
  have key := splice_get (j := j) (cells := cells) (vs := vs) (vs' := vs') (c := c) (base := 0) (p := p) (by omega) hvs (by omega) (fun i v hv => by
    obtain ⟨x, h1, h2⟩ := hc.get hv
    exact ⟨x, by simpa using h1, h2⟩)
  refine VRels.of_get ?_ fun i v v' hv hv' => ?_
  · simp only [List.length_append, List.length_take, List.length_drop, Array.length_toList, size_setRange]; omega
  · obtain ⟨x, h1, h2⟩ := key i v hv
    simp only [Nat.zero_add] at h1
    rw [Array.getElem?_toList, h1] at hv'; cases hv'; exact h2

theorem afill_sound {place : Nat → Option (Nat × Nat)} : ∀ (parts : List (Nat × AV)) (parts' : List (Nat × Value)) (cells r : List AV) (c : Array Value), PRels j parts parts' → VRels j cells c.toList → afill place cells parts = some r →
    ∃ r', Instr.fill place c parts' = some r' ∧ VRels j r r'.toList
  | [], _, cells, r, c, hp, hc, he => by
    cases hp; simp only [afill, Option.some.injEq] at he; subst he; exact ⟨c, rfl, hc⟩
  | (i, v) :: rest, _, cells, r, c, hp, hc, he => by
    cases hp with
    | cons hv ht =>
      rename_i v' l'
      simp only [afill] at he
      split at he
      · cases he
      · rename_i off size hpl
        split at he
        · cases he
        · rename_i l hl
          split at he
          · rename_i hb
            simp only [Bool.and_eq_true] at hb
            have h1 := Nat.eq_of_beq_eq_true hb.1
            have h2 := Nat.le_of_ble_eq_true hb.2
            have hvc := hv.cells hl
            have hlen := hvc.length
            have hcl := hc.length
            simp only [Array.length_toList] at hlen hcl
            obtain ⟨r', h3, h4⟩ := afill_sound rest _ _ r (setRange c off _) ht (splice_list hc hvc h2) he
            refine ⟨r', ?_, h4⟩
            simp only [Instr.fill, hpl]
            rw [if_neg (by simp only [bne_iff_ne, ne_eq, Bool.or_eq_true, decide_eq_true_eq]; omega)]
            have e : v'.cells.zipIdx.foldl (fun cs (x : Value × Nat) => cs.setIfInBounds (off + x.2) x.1) c = setRange c off v'.cells.toList := by
              rw [← Array.foldl_toList, Array.toList_zipIdx]; exact foldl_set off _ 0 c
            exact (congrArg (fun z => Instr.fill place z l') e).trans h3
          · cases he

end Go.Ah
