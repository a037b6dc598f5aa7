/- An abstract heap over the model's world: values and rows by numbers of their own, related to the world by an injection; a program-independent library. -/
import Derived.Laws.Cells
import Derived.Recover
import Derived.LoopN
namespace Go.Ah

/-! ## tables by numbers -/
inductive Trie (α : Type) where
  | leaf
  | node (v : Option α) (l r : Trie α)

namespace Trie
variable {α : Type}
def get : Trie α → Nat → Option α
  | .leaf, _ => none
  | .node v l r, k => match k with
    | 0 => v
    | m + 1 => match Nat.beq (m % 2) 0 with
      | true => l.get (m / 2)
      | false => r.get (m / 2)
def set (v : Option α) : Nat → Trie α → Nat → Trie α
  | 0, t, _ => t
  | f + 1, .leaf, k => match k with
    | 0 => .node v .leaf .leaf
    | m + 1 => match Nat.beq (m % 2) 0 with
      | true => .node none (set v f .leaf (m / 2)) .leaf
      | false => .node none .leaf (set v f .leaf (m / 2))
  | f + 1, .node v0 l r, k => match k with
    | 0 => .node v l r
    | m + 1 => match Nat.beq (m % 2) 0 with
      | true => .node v0 (set v f l (m / 2)) r
      | false => .node v0 l (set v f r (m / 2))
def put (t : Trie α) (k : Nat) (v : Option α) : Trie α := set v (k + 1) t k

theorem get_leaf (k : Nat) : (leaf : Trie α).get k = none := rfl

theorem beq_t {m : Nat} (h : Nat.beq (m % 2) 0 = true) : m % 2 = 0 := Nat.eq_of_beq_eq_true h
theorem beq_f {m : Nat} (h : Nat.beq (m % 2) 0 = false) : m % 2 = 1 := by have := Nat.ne_of_beq_eq_false h; omega

theorem get_set (v : Option α) : ∀ (f : Nat) (t : Trie α) (k k' : Nat), k < f → (set v f t k).get k' = if k' = k then v else t.get k' := by
  intro f
  induction f with
  | zero => intro t k k' h; omega
  | succ f ih =>
    intro t k k' h
    cases t with
    | leaf =>
      cases k with
      | zero => cases k' with
        | zero => simp [set, get]
        | succ m' => cases hm' : Nat.beq (m' % 2) 0 <;> simp [set, get, hm']
      | succ m =>
        cases hm : Nat.beq (m % 2) 0 <;> cases k' with
        | zero => simp [set, get, hm]
        | succ m' =>
          have h2 : m / 2 < f := by omega
          have e4 : m % 2 = m' % 2 → (m' / 2 = m / 2 ↔ m' + 1 = m + 1) := by omega
          have e5 : m % 2 ≠ m' % 2 → m' + 1 ≠ m + 1 := by omega
          cases hm' : Nat.beq (m' % 2) 0 <;> simp only [set, get, hm, hm', ih _ _ _ h2] <;> (first | have e1 := beq_t hm | have e1 := beq_f hm) <;> (first | have e2 := beq_t hm' | have e2 := beq_f hm') <;>
            first
              | (rw [if_neg (e5 (by omega))])
              | (simp only [e4 (by omega)])
    | node v0 l r =>
      cases k with
      | zero => cases k' with
        | zero => simp [set, get]
        | succ m' => cases hm' : Nat.beq (m' % 2) 0 <;> simp [set, get, hm']
      | succ m =>
        cases hm : Nat.beq (m % 2) 0 <;> cases k' with
        | zero => simp [set, get, hm]
        | succ m' =>
          have h2 : m / 2 < f := by omega
          have e4 : m % 2 = m' % 2 → (m' / 2 = m / 2 ↔ m' + 1 = m + 1) := by omega
          have e5 : m % 2 ≠ m' % 2 → m' + 1 ≠ m + 1 := by omega
          cases hm' : Nat.beq (m' % 2) 0 <;> simp only [set, get, hm, hm', ih _ _ _ h2] <;> (first | have e1 := beq_t hm | have e1 := beq_f hm) <;> (first | have e2 := beq_t hm' | have e2 := beq_f hm') <;>
            first
              | (rw [if_neg (e5 (by omega))])
              | (simp only [e4 (by omega)])

theorem get_put (t : Trie α) (k k' : Nat) (v : Option α) : (t.put k v).get k' = if k' = k then v else t.get k' := get_set v _ t k k' (by omega)
end Trie

/-! ## values -/
inductive AV where
  | bool (b : Bool)
  | int (k : IntKind) (n : Int)
  | str (s : List UInt8)
  | ptr (a : Option (Nat × Nat))
  /-- sz: cells of an element; full: no capacity behind the length -/
  | slice (a : Option (Nat × Nat)) (len sz : Nat) (full : Bool)
  | map (r : Option Nat)
  | func (fn : Fn) (first captured : List AV)
  | nilFunc
  | iface (t : TypeId) (v : AV)
  | nilIface
  | agg (l : List AV)
  | tuple (l : List AV)
  | bad
  deriving Inhabited

/-- a row's place: block, first cell, how many cells -/
abbrev J := Nat → Option (Nat × Nat × Nat)

mutual
inductive VRel (j : J) : AV → Value → Prop
  | bool (b : Bool) : VRel j (.bool b) (.bool b)
  | int (k : IntKind) (n : Int) : VRel j (.int k n) (.int k n)
  | str (s : List UInt8) : VRel j (.str s) (.string ⟨s.toArray⟩)
  | ptrNil : VRel j (.ptr none) (.pointer none)
  | ptr {b o B base n : Nat} (h : j b = some (B, base, n)) : VRel j (.ptr (some (b, o))) (.pointer (some ⟨B, base + o, none⟩))
  | sliceNil {sz : Nat} {f : Bool} : VRel j (.slice none 0 sz f) (.slice none 0 0)
  | slice {b o len sz B base n cap : Nat} {f : Bool} (h : j b = some (B, base, n)) (hl : len ≤ cap) (hc : o + cap * sz ≤ n) (hf : f = true → cap = len) :
      VRel j (.slice (some (b, o)) len sz f) (.slice (some ⟨B, base + o, none⟩) len cap)
  | sliceEmpty {b o sz : Nat} {f : Bool} {A : Addr} {e : Nat × Nat × Nat} (h : j b = some e) : VRel j (.slice (some (b, o)) 0 sz f) (.slice (some A) 0 0)
  | mapNil : VRel j (.map none) (.map none)
  | map {r B base n : Nat} (h : j r = some (B, base, n)) : VRel j (.map (some r)) (.map (some B))
  | func {fn : Fn} {f c : List AV} {f' c' : List Value} (hf : VRels j f f') (hc : VRels j c c') : VRel j (.func fn f c) (.func fn f'.toArray c'.toArray)
  | nilFunc : VRel j .nilFunc .nilFunc
  | iface {t : TypeId} {v : AV} {v' : Value} (h : VRel j v v') : VRel j (.iface t v) (.iface t v')
  | nilIface : VRel j .nilIface .nilIface
  | agg {l : List AV} {l' : List Value} (h : VRels j l l') : VRel j (.agg l) (.agg l'.toArray)
  | tuple {l : List AV} {l' : List Value} (h : VRels j l l') : VRel j (.tuple l) (.tuple l'.toArray)
  | bad (v : Value) : VRel j .bad v
inductive VRels (j : J) : List AV → List Value → Prop
  | nil : VRels j [] []
  | cons {v : AV} {v' : Value} {l : List AV} {l' : List Value} (h : VRel j v v') (t : VRels j l l') : VRels j (v :: l) (v' :: l')
end

def J.le (j j' : J) : Prop := ∀ b e, j b = some e → j' b = some e
theorem J.le_refl (j : J) : j.le j := fun _ _ h => h
theorem J.le_trans {a b c : J} (h : a.le b) (k : b.le c) : a.le c := fun x e hx => k x e (h x e hx)

mutual
theorem VRel.mono {j j' : J} (hj : j.le j') {v : AV} {x : Value} : VRel j v x → VRel j' v x
  | .bool b => .bool b
  | .int k n => .int k n
  | .str s => .str s
  | .ptrNil => .ptrNil
  | .ptr h => .ptr (hj _ _ h)
  | .sliceNil => .sliceNil
  | .slice h hl hc hf => .slice (hj _ _ h) hl hc hf
  | .sliceEmpty h => .sliceEmpty (hj _ _ h)
  | .mapNil => .mapNil
  | .map h => .map (hj _ _ h)
  | .func hf hc => .func (VRels.mono hj hf) (VRels.mono hj hc)
  | .nilFunc => .nilFunc
  | .iface h => .iface (VRel.mono hj h)
  | .nilIface => .nilIface
  | .agg h => .agg (VRels.mono hj h)
  | .tuple h => .tuple (VRels.mono hj h)
  | .bad v => .bad v
theorem VRels.mono {j j' : J} (hj : j.le j') {v : List AV} {x : List Value} : VRels j v x → VRels j' v x
  | .nil => .nil
  | .cons h t => .cons (VRel.mono hj h) (VRels.mono hj t)
end

theorem VRels.length {j : J} {l : List AV} {l' : List Value} (h : VRels j l l') : l.length = l'.length := by
  induction l generalizing l' with
  | nil => cases h; rfl
  | cons a l ih => cases h with | cons h t => simp [ih t]

theorem VRels.get {j : J} {l : List AV} {l' : List Value} (h : VRels j l l') {i : Nat} {v : AV} (hv : l[i]? = some v) : ∃ v', l'[i]? = some v' ∧ VRel j v v' := by
  induction l generalizing l' i with
  | nil => simp at hv
  | cons a l ih =>
    cases h with
    | cons h t =>
      cases i with
      | zero => simp at hv; subst hv; exact ⟨_, rfl, h⟩
      | succ i => simp at hv ⊢; exact ih t hv

theorem VRels.get' {j : J} {l : List AV} {l' : List Value} (h : VRels j l l') {i : Nat} {v' : Value} (hv : l'[i]? = some v') : ∃ v, l[i]? = some v ∧ VRel j v v' := by
  induction l generalizing l' i with
  | nil => cases h; simp at hv
  | cons a l ih =>
    cases h with
    | cons h t =>
      cases i with
      | zero => simp at hv; subst hv; exact ⟨_, rfl, h⟩
      | succ i => simp at hv ⊢; exact ih t hv

theorem VRels.of_get {j : J} {l : List AV} {l' : List Value} (hl : l.length = l'.length)
    (h : ∀ (i : Nat) v v', l[i]? = some v → l'[i]? = some v' → VRel j v v') : VRels j l l' := by
  induction l generalizing l' with
  | nil => cases l' with | nil => exact .nil | cons => simp at hl
  | cons a l ih =>
    cases l' with
    | nil => simp at hl
    | cons b l' =>
      refine .cons (h 0 _ _ rfl rfl) (ih (by simpa using hl) fun i v v' hv hv' => h (i + 1) v v' (by simpa using hv) (by simpa using hv'))

theorem VRels.append {j : J} {a b : List AV} {a' b' : List Value} (h : VRels j a a') (k : VRels j b b') : VRels j (a ++ b) (a' ++ b') := by
  induction a generalizing a' with
  | nil => cases h; exact k
  | cons x a ih => cases h with | cons h t => exact .cons h (ih t)

theorem VRels.take {j : J} {a : List AV} {a' : List Value} (h : VRels j a a') (n : Nat) : VRels j (a.take n) (a'.take n) := by
  induction a generalizing a' n with
  | nil => cases h; simp; exact .nil
  | cons x a ih =>
    cases h with
    | cons h t => cases n with
      | zero => simp; exact .nil
      | succ n => simp; exact .cons h (ih t n)

theorem VRels.drop {j : J} {a : List AV} {a' : List Value} (h : VRels j a a') (n : Nat) : VRels j (a.drop n) (a'.drop n) := by
  induction a generalizing a' n with
  | nil => cases h; simp; exact .nil
  | cons x a ih =>
    cases h with
    | cons h t => cases n with
      | zero => simp; exact .cons h t
      | succ n => simp; exact ih t n

theorem VRels.replicate {j : J} {v : AV} {v' : Value} (h : VRel j v v') (n : Nat) : VRels j (List.replicate n v) (List.replicate n v') := by
  induction n with
  | zero => exact .nil
  | succ n ih => exact .cons h ih

theorem VRels.map {j : J} {α : Type} (l : List α) (f : α → AV) (g : α → Value) (h : ∀ x ∈ l, VRel j (f x) (g x)) : VRels j (l.map f) (l.map g) := by
  induction l with
  | nil => exact .nil
  | cons x l ih => exact .cons (h x (by simp)) (ih fun y hy => h y (by simp [hy]))

/-- what a value is that stands in a text; pointers are left out -/
def absv : Nat → Value → AV
  | 0, _ => .bad
  | n + 1, v => match v with
    | .bool b => .bool b
    | .int k m => .int k m
    | .string s => .str s.data.toList
    | .pointer none => .ptr none
    | .slice none 0 0 => .slice none 0 0 true
    | .map none => .map none
    | .func fn f c => match f.toList, c.toList with
      | [], [] => .func fn [] []
      | _, _ => .bad
    | .nilFunc => .nilFunc
    | .iface t v => .iface t (absv n v)
    | .nilIface => .nilIface
    | .agg cs => .agg (cs.toList.map (absv n))
    | .tuple vs => .tuple (vs.toList.map (absv n))
    | _ => .bad

theorem VRel.absv (j : J) : ∀ (n : Nat) (v : Value), VRel j (absv n v) v := by
  intro n
  induction n with
  | zero => intro v; exact .bad v
  | succ n ih =>
    intro v
    cases v <;> simp only [Ah.absv] <;> (try first | exact .bool _ | exact .int _ _ | exact .bad _ | exact .nilFunc | exact .nilIface | exact .iface (ih _))
    · exact .str _
    · rename_i a; cases a <;> first | exact .ptrNil | exact .bad _
    · rename_i a l c
      split <;> first | exact .sliceNil | exact .bad _ | skip
      all_goals simp_all
      all_goals first | exact .sliceNil | exact .bad _
    · rename_i r; cases r <;> first | exact .mapNil | exact .bad _
    · rename_i fn f c
      split
      · rename_i hf hc
        have hf' : f = ([] : List Value).toArray := by cases f; simp_all
        have hc' : c = ([] : List Value).toArray := by cases c; simp_all
        rw [hf', hc']; exact .func .nil .nil
      · exact .bad _
    · rename_i cs
      have := VRels.map (j := j) cs.toList (Ah.absv n) id (fun x _ => ih x)
      have h := VRel.agg this
      simpa using h
    · rename_i cs
      have := VRels.map (j := j) cs.toList (Ah.absv n) id (fun x _ => ih x)
      have h := VRel.tuple this
      simpa using h

end Go.Ah
