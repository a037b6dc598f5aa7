/- Operations that only compute. -/
import Derived.Test.YtcapeganlaibhaaGreatDoorAhOps1
import Derived.Laws.StructEq
import Derived.Laws.Tables
import Derived.Laws.Cover1
namespace Go.Ah

variable {P : Program} {j : J} {H : AHeap} {w : World}

/-- what a value of the model is, if it holds no place -/
def avOf : Value → Option AV
  | .bool b => some (.bool b)
  | .int k n => some (.int k n)
  | .string s => some (.str s.data.toList)
  | _ => none
theorem avOf_rel {v : Value} {x : AV} (h : avOf v = some x) : VRel j x v := by
  cases v <;> simp only [avOf, Option.some.injEq, reduceCtorEq] at h <;> subst h
  · exact .bool _
  · exact .int _ _
  · exact .str _

/-- the value of a computation of the model that does nothing else -/
def pureOf : Sem Value → Option AV
  | .pure v => avOf v
  | _ => none
theorem pureOf_sound {s : Sem Value} {x : AV} (h : pureOf s = some x) : ∃ x', s.run P w = .ok x' w ∧ VRel j x x' := by
  cases s <;> simp only [pureOf, reduceCtorEq] at h
  exact ⟨_, rfl, avOf_rel h⟩

/-! ## parts of structs and arrays -/
def apart (P : Program) (t : TypeId) (l : List AV) (off : Nat) : Option AV :=
  match aggT P t with
  | some true => match szT P t with
    | some n => match Nat.beq ((l.drop off).take n).length n with
      | true => some (.agg ((l.drop off).take n))
      | false => none
    | none => none
  | some false => l[off]?
  | none => none

theorem apart_sound {t : TypeId} {l : List AV} {l' : List Value} {off : Nat} {x : AV} (hl : VRels j l l') (he : apart P t l off = some x) :
    ∃ x', (part t l'.toArray off).run P w = .ok x' w ∧ VRel j x x' := by
  unfold apart at he
  split at he
  · rename_i ha
    split at he
    · rename_i n hs
      split at he
      · cases he
        refine ⟨.agg ((l'.drop off).take n).toArray, ?_, .agg ((hl.drop off).take n)⟩
        simp [part, run_isAggA ha, run_sizeOfA hs]
      · cases he
    · cases he
  · rename_i ha
    obtain ⟨x', h1, h2⟩ := hl.get he
    refine ⟨x', ?_, h2⟩
    simp [part, run_isAggA ha, h1]
  · cases he

def fieldOf (P : Program) (t : TypeId) (f : Nat) : Option Field :=
  match P.underlying t with
  | some (.struct fs) => fs[f]?
  | _ => none

def afield (P : Program) (t : TypeId) (v : AV) (f : Nat) : Option AV :=
  match v with
  | .agg l => match fieldOf P t f with
    | some fd => apart P fd.type l fd.offset
    | none => none
  | _ => none

theorem afield_sound {t : TypeId} {v x : AV} {v' : Value} {f : Nat} (hv : VRel j v v') (he : afield P t v f = some x) : ∃ x', (Instr.field t v' f).run P w = .ok x' w ∧ VRel j x x' := by
  unfold afield at he
  split at he
  · cases hv with
    | agg hl =>
      split at he
      · rename_i fd hf
        unfold fieldOf at hf
        split at hf
        · rename_i fs hu
          obtain ⟨x', h1, h2⟩ := apart_sound (w := w) hl he
          exact ⟨x', by simp [Instr.field, run_underlying hu, hf, asAgg, h1], h2⟩
        · cases hf
      · cases he
  · cases he

def afieldAddr (P : Program) (t : TypeId) (v : AV) (f : Nat) : Option AV :=
  match v with
  | .ptr (some (b, o)) => match fieldOf P t f with
    | some fd => match szT P fd.type with
      | some (_ + 1) => some (.ptr (some (b, o + fd.offset)))
      | _ => none
    | none => none
  | _ => none

theorem afieldAddr_sound {t : TypeId} {v x : AV} {v' : Value} {f : Nat} (hv : VRel j v v') (he : afieldAddr P t v f = some x) : ∃ x', (Instr.fieldAt t v' f).run P w = .ok x' w ∧ VRel j x x' := by
  unfold afieldAddr at he
  split at he
  · cases hv with
    | ptr hj =>
      rename_i b o B base n
      split at he
      · rename_i fd hf
        unfold fieldOf at hf
        split at hf
        · rename_i fs hu
          split at he
          · rename_i m hs
            cases he
            refine ⟨_, ?_, VRel.ptr (o := o + fd.offset) hj⟩
            simp [Instr.fieldAt, run_underlying hu, hf, Instr.sureAddr, fieldPlace, run_sizeOfA hs, Addr.add_lit, Nat.add_assoc]
          · cases he
        · cases hf
      · cases he
  · cases he

/-! ## indices -/
def aindexAddr (P : Program) (t : TypeId) (v ix : AV) : Option AV :=
  match ix with
  | .int _ (.ofNat i) =>
    match v with
    | .slice (some (b, o)) len sz _ => match P.underlying t with
      | some (.slice e) => match szT P e with
        | some n => match Nat.beq n sz && Nat.blt i len with
          | true => some (.ptr (some (b, o + i * sz)))
          | false => none
        | none => none
      | _ => none
    | .ptr (some (b, o)) => match P.underlying t with
      | some (.array len e) => match szT P e with
        | some n => match Nat.blt i len with
          | true => some (.ptr (some (b, o + i * n)))
          | false => none
        | none => none
      | _ => none
    | _ => none
  | _ => none

theorem blt_true {a b : Nat} (h : Nat.blt a b = true) : a < b := Nat.le_of_ble_eq_true h

theorem addr_add (B o n : Nat) : (⟨B, o, none⟩ : Addr).add n = ⟨B, o + n, none⟩ := Addr.add_lit _ _ _

theorem aindexAddr_sound {t : TypeId} {v ix x : AV} {v' ix' : Value} (hv : VRel j v v') (hi : VRel j ix ix') (he : aindexAddr P t v ix = some x) : ∃ x', (Instr.indexAt t v' ix').run P w = .ok x' w ∧ VRel j x x' := by
  unfold aindexAddr at he
  split at he
  · rename_i k i
    cases hi with
    | int =>
      split at he
      · rename_i b o len sz f
        split at he
        · rename_i e hu
          split at he
          · rename_i n hs
            split at he
            · rename_i hb
              simp only [Bool.and_eq_true] at hb
              obtain ⟨h1, h2⟩ := hb
              have h1 := Nat.eq_of_beq_eq_true h1; subst h1
              have h2 := blt_true h2
              cases he
              cases hv with
              | sliceEmpty => omega
              | slice hj hl hc hf =>
                refine ⟨_, ?_, VRel.ptr (o := o + i * n) hj⟩
                simp [Instr.indexAt, asIntOf, run_underlying hu, run_sizeOfA hs, h2, addr_add, Nat.add_assoc]
            · cases he
          · cases he
        · cases he
      · rename_i b o
        split at he
        · rename_i len e hu
          split at he
          · rename_i n hs
            split at he
            · rename_i h2
              have h2 := blt_true h2
              cases he
              cases hv with
              | ptr hj =>
                refine ⟨_, ?_, VRel.ptr (o := o + i * n) hj⟩
                simp [Instr.indexAt, asIntOf, run_underlying hu, run_sizeOfA hs, h2, addr_add, Nat.add_assoc, Instr.sureAddr]
            · cases he
          · cases he
        · cases he
      · cases he
  · cases he

def aindex (P : Program) (t : TypeId) (v ix : AV) : Option AV :=
  match ix with
  | .int _ (.ofNat i) =>
    match v with
    | .str s => match P.underlying t with
      | some .string => match s[i]? with
        | some c => some (.int .u8 c.toNat)
        | none => none
      | _ => none
    | .agg l => match P.underlying t with
      | some (.array len e) => match szT P e with
        | some n => match Nat.blt i len with
          | true => apart P e l (i * n)
          | false => none
        | none => none
      | _ => none
    | _ => none
  | _ => none

theorem aindex_sound {t : TypeId} {v ix x : AV} {v' ix' : Value} (hv : VRel j v v') (hi : VRel j ix ix') (he : aindex P t v ix = some x) : ∃ x', (Instr.index t v' ix').run P w = .ok x' w ∧ VRel j x x' := by
  unfold aindex at he
  split at he
  · rename_i k i
    cases hi with
    | int =>
      split at he
      · rename_i s
        cases hv with
        | str =>
          split at he
          · rename_i hu
            split at he
            · rename_i c hc
              cases he
              refine ⟨.int .u8 c.toNat, ?_, .int _ _⟩
              have hb : (⟨s.toArray⟩ : ByteArray)[i]? = some c := by
                obtain ⟨hlt, hcc⟩ := List.getElem?_eq_some_iff.1 hc
                have hs : i < (⟨s.toArray⟩ : ByteArray).size := by simpa [ByteArray.size] using hlt
                rw [getElem?_pos (⟨s.toArray⟩ : ByteArray) i hs]
                simp only [Option.some.injEq]
                rw [← hcc]; rfl
              simp [Instr.index, asIntOf, run_underlying hu, hb]
            · cases he
          · cases he
      · cases hv with
        | agg hl =>
          split at he
          · rename_i len e hu
            split at he
            · rename_i n hs
              split at he
              · rename_i h2
                have h2 := blt_true h2
                obtain ⟨x', h3, h4⟩ := apart_sound (w := w) hl he
                exact ⟨x', by simp [Instr.index, asIntOf, run_underlying hu, run_sizeOfA hs, h2, h3], h4⟩
              · cases he
            · cases he
          · cases he
      · cases he
  · cases he

/-! ## slices of strings and of slices -/
def abound (v : Option AV) (y : Nat) (dflt : Nat) : Option Nat :=
  match v with
  | none => some dflt
  | some (.int _ (.ofNat i)) => match Nat.ble i y with
    | true => some i
    | false => none
  | _ => none

inductive ORelV (j : J) : Option AV → Option Value → Prop
  | none : ORelV j none none
  | some {v : AV} {v' : Value} (h : VRel j v v') : ORelV j (some v) (some v')

theorem abound_sound {v : AV} {v' : Value} {y d n : Nat} (hv : VRel j v v') (he : abound (some v) y d = some n) : (∀ (code : BoundsCode) (y' : Nat), y ≤ y' → (Instr.sliceBound v' y' code).run P w = .ok n w) ∧ n ≤ y := by
  unfold abound at he
  split at he
  · rename_i h; cases h
  · rename_i k i h
    cases h
    cases hv with
    | int =>
      split at he
      · rename_i hle
        cases he
        have hle := Nat.le_of_ble_eq_true hle
        refine ⟨fun code y' hy => ?_, hle⟩
        have hle' : (n : Int) ≤ (y' : Int) := by omega
        simp [Instr.sliceBound, asIntOf, hle']
      · cases he
  · cases he

/-- whether no capacity is left behind what is taken -/
def isFull (f : Bool) (len h : Nat) : Option AV → Bool
  | none => f && Nat.beq h len
  | some (.int _ (.ofNat m)) => Nat.beq h m
  | some _ => false

def abounds (len : Nat) (lo hi mx : Option AV) : Option (Nat × Nat) :=
  match hi, mx with
  | none, some _ => none
  | _, _ => match abound mx len len with
    | some m => match abound hi m m with
      | some h => match abound lo h 0 with
        | some l => some (l, h)
        | none => none
      | none => none
    | none => none

theorem abound_none {y d n : Nat} (h : abound none y d = some n) : n = d := by simp [abound] at h; exact h.symm

theorem abounds_run {isS : Bool} {len cap l h : Nat} {lo hi mx : Option AV} {lo' hi' mx' : Option Value} (hlo : ORelV j lo lo') (hhi : ORelV j hi hi') (hmx : ORelV j mx mx') (hlc : len ≤ cap)
    (he : abounds len lo hi mx = some (l, h)) : ∃ m', (Instr.sliceBounds isS len cap lo' hi' mx').run P w = .ok (l, h, m') w ∧ l ≤ h ∧ h ≤ m' ∧ m' ≤ cap ∧ h ≤ len ∧ (∀ f, (f = true → cap = len) → isFull f len h mx = true → m' = h) := by
  unfold abounds at he
  split at he
  · cases he
  · rename_i hno
    split at he
    · rename_i m em
      split at he
      · rename_i h0 eh
        split at he
        · rename_i l0 el
          cases he
          have R := @abound_sound P j w
          have hm4 : m ≤ len := by
            cases hmx with
            | none => rw [abound_none em]; exact Nat.le_refl _
            | some hv => exact (R hv em).2
          have hh2 : h ≤ m := by
            cases hhi with
            | none =>
              have e2 := abound_none eh
              omega
            | some hv => exact (R hv eh).2
          have hl2 : l ≤ h := by
            cases hlo with
            | none => rw [abound_none el]; omega
            | some hv => exact (R hv el).2
          cases hmx with
          | none =>
            have e1 := abound_none em
            refine ⟨cap, ?_, hl2, by omega, Nat.le_refl _, by omega, fun f hf hh => by
              simp only [isFull, Bool.and_eq_true] at hh
              have := Nat.eq_of_beq_eq_true hh.2
              rw [hf hh.1]; exact this.symm⟩
            have hh : ∀ c, (match hi' with | some v => Instr.sliceBound v cap c | none => (pure len : Sem Nat)).run P w = .ok h w := by
              intro c
              cases hhi with
              | none => rw [abound_none eh, e1]; rfl
              | some hv => exact (R hv eh).1 _ _ (by omega)
            have hl : ∀ c, (match lo' with | some v => Instr.sliceBound v h c | none => (pure 0 : Sem Nat)).run P w = .ok l w := by
              intro c
              cases hlo with
              | none => rw [abound_none el]; rfl
              | some hv => exact (R hv el).1 c h (Nat.le_refl _)
            cases hi' with
            | none =>
              have hh := hh .index
              simp at hh; subst hh
              cases lo' with
              | none => have hl := hl .index; simp at hl; subst hl; simp [Instr.sliceBounds]
              | some v => simp at hl; simp [Instr.sliceBounds, hl]
            | some v' =>
              simp at hh
              cases lo' with
              | none => have hl := hl .index; simp at hl; subst hl; simp [Instr.sliceBounds, hh]
              | some v => simp at hl; simp [Instr.sliceBounds, hl, hh]
          | some hv =>
            rename_i vm vm'
            obtain ⟨hr, hle⟩ := R hv em
            cases hhi with
            | none => exact (hno _ rfl rfl).elim
            | some hv2 =>
              obtain ⟨hr2, hle2⟩ := R hv2 eh
              refine ⟨m, ?_, hl2, by omega, by omega, by omega, fun f _ hh => by
                unfold isFull at hh
                split at hh
                · rename_i heq; cases heq
                · rename_i k m0 heq; cases heq
                  have := Nat.eq_of_beq_eq_true hh
                  simp only [abound] at em
                  split at em
                  · cases em; exact this.symm
                  · cases em
                · cases hh⟩
              have h1 := fun c => hr c cap (by omega)
              have h2 := fun c => hr2 c m (by omega)
              cases hlo with
              | none => rw [abound_none el]; simp [Instr.sliceBounds, h1, h2]
              | some hv3 =>
                have h3 := fun c => (R hv3 el).1 c h (Nat.le_refl _)
                simp [Instr.sliceBounds, h1, h2, h3]
        · cases he
      · cases he
    · cases he

def aslice (P : Program) (t : TypeId) (v : AV) (lo hi mx : Option AV) : Option AV :=
  match v with
  | .str s => match P.underlying t with
    | some .string => match mx with
      | some _ => none
      | none => match abounds s.length lo hi none with
        | some (l, h) => some (.str ((s.drop l).take (h - l)))
        | none => none
    | _ => none
  | .slice none 0 _ _ => match P.underlying t with
    | some (.slice e) => match szT P e with
      | some _ => match abounds 0 lo hi mx with
        | some _ => some (.slice none 0 0 true)
        | none => none
      | none => none
    | _ => none
  | .slice (some (b, o)) len sz f => match P.underlying t with
    | some (.slice e) => match szT P e with
      | some n => match Nat.beq n sz with
        | true => match abounds len lo hi mx with
          | some (l, h) => some (.slice (some (b, o + l * sz)) (h - l) sz (isFull f len h mx))
          | none => none
        | false => none
      | none => none
    | _ => none
  | _ => none

theorem extract_toArray (l : List UInt8) (a b : Nat) : (⟨l.toArray⟩ : ByteArray).extract a b = ⟨((l.drop a).take (b - a)).toArray⟩ := by
  apply ByteArray.ext
  rw [ByteArray.data_extract]
  simp

theorem aslice_sound {t : TypeId} {v x : AV} {v' : Value} {lo hi mx : Option AV} {lo' hi' mx' : Option Value} (hv : VRel j v v') (hlo : ORelV j lo lo') (hhi : ORelV j hi hi') (hmx : ORelV j mx mx')
    (he : aslice P t v lo hi mx = some x) : ∃ x', (Instr.sliceAt t v' lo' hi' mx').run P w = .ok x' w ∧ VRel j x x' := by
  unfold aslice at he
  split at he
  · rename_i s
    split at he
    · rename_i hu
      split at he
      · cases he
      · cases hmx
        split at he
        · rename_i l h hb
          cases he
          cases hv with
          | str =>
            have hsz : (⟨s.toArray⟩ : ByteArray).size = s.length := by simp [ByteArray.size]
            obtain ⟨m', h1, h2, h3, h4, h5, h6⟩ := abounds_run (P := P) (w := w) (isS := false) (cap := s.length) hlo hhi .none (Nat.le_refl _) hb
            refine ⟨_, ?_, .str _⟩
            simp [Instr.sliceAt, Instr.slice, run_underlying hu, hsz, h1, extract_toArray]
        · cases he
    · cases he
  · split at he
    · rename_i e hu
      split at he
      · rename_i sz hs
        split at he
        · rename_i lh hb
          obtain ⟨l, h⟩ := lh
          cases he
          cases hv with
          | sliceNil =>
            obtain ⟨m', h1, h2, h3, h4, h5, h6⟩ := abounds_run (P := P) (w := w) (isS := true) (cap := 0) hlo hhi hmx (Nat.le_refl _) hb
            refine ⟨_, ?_, .sliceNil⟩
            have e1 : m' = 0 := by omega
            have e2 : l = 0 := by omega
            have e3 : h = 0 := by omega
            subst e1 e2 e3
            simp [Instr.sliceAt, Instr.slice, run_underlying hu, h1, run_sizeOfA hs]
        · cases he
      · cases he
    · cases he
  · rename_i b o len sz f
    split at he
    · rename_i e hu
      split at he
      · rename_i n hs
        split at he
        · rename_i hn
          have hn := Nat.eq_of_beq_eq_true hn; subst hn
          split at he
          · rename_i l h hb
            cases he
            cases hv with
            | sliceEmpty hj =>
              rename_i A e0
              obtain ⟨m', h1, h2, h3, h4, h5, h6⟩ := abounds_run (P := P) (w := w) (isS := true) (cap := 0) hlo hhi hmx (Nat.le_refl _) hb
              have e1 : m' = 0 := by omega
              have e2 : l = 0 := by omega
              have e3 : h = 0 := by omega
              subst e1 e2 e3
              refine ⟨.slice (some A) 0 0, ?_, .sliceEmpty hj⟩
              simp [Instr.sliceAt, Instr.slice, run_underlying hu, h1, run_sizeOfA hs]
            | slice hj hl hc hf =>
              rename_i B base nn cap
              obtain ⟨m', h1, h2, h3, h4, h5, h6⟩ := abounds_run (P := P) (w := w) (isS := true) (cap := cap) hlo hhi hmx hl hb
              by_cases hml : m' = l
              · have e3 : h - l = 0 := by omega
                have e4 : m' - l = 0 := by omega
                rw [e3]
                refine ⟨.slice (some ⟨B, base + o, none⟩) 0 0, ?_, .sliceEmpty hj⟩
                simp [Instr.sliceAt, Instr.slice, run_underlying hu, h1, run_sizeOfA hs, hml, e3]
              · refine ⟨.slice (some ⟨B, base + (o + l * n), none⟩) (h - l) (m' - l), ?_, .slice hj (by omega) ?_ (fun hh => by rw [h6 f hf hh])⟩
                · simp [Instr.sliceAt, Instr.slice, run_underlying hu, h1, run_sizeOfA hs, hml, addr_add, Nat.add_assoc]
                · have : l * n + (m' - l) * n = m' * n := by rw [← Nat.add_mul]; congr 1; omega
                  have : m' * n ≤ cap * n := Nat.mul_le_mul_right _ h4
                  omega
          · cases he
        · cases he
      · cases he
    · cases he
  · cases he

end Go.Ah
