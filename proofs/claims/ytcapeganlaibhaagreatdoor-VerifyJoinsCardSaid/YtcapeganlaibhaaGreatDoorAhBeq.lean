/- Equality of values, and operations that only read or only make. -/
import Derived.Test.YtcapeganlaibhaaGreatDoorAhCode
set_option linter.unusedVariables false
set_option linter.unusedSimpArgs false
namespace Go.Ah

variable {P : Program} {j : J} {H : AHeap} {w : World}

def beqFn : Fn → Fn → Bool
  | .func a, .func b => Nat.beq a b
  | _, _ => false
def beqInt : Int → Int → Bool
  | .ofNat a, .ofNat b => Nat.beq a b
  | .negSucc a, .negSucc b => Nat.beq a b
  | _, _ => false
def beqPos : Option (Nat × Nat) → Option (Nat × Nat) → Bool
  | none, none => true
  | some (a, b), some (c, d) => Nat.beq a c && Nat.beq b d
  | _, _ => false
def beqOpt : Option Nat → Option Nat → Bool
  | none, none => true
  | some a, some b => Nat.beq a b
  | _, _ => false
def beqBool : Bool → Bool → Bool
  | true, true => true
  | false, false => true
  | _, _ => false
mutual
def AV.beq : AV → AV → Bool
  | .bool a, .bool b => beqBool a b
  | .int k a, .int k' b => decide (k = k') && beqInt a b
  | .str a, .str b => beqBytes a b
  | .ptr a, .ptr b => beqPos a b
  | .slice a l s f, .slice b m t g => beqPos a b && (Nat.beq l m && (Nat.beq s t && beqBool f g))
  | .map a, .map b => beqOpt a b
  | .func f a c, .func g b d => beqFn f g && (AV.beqs a b && AV.beqs c d)
  | .nilFunc, .nilFunc => true
  | .iface t v, .iface u x => Nat.beq t u && AV.beq v x
  | .nilIface, .nilIface => true
  | .agg l, .agg m => AV.beqs l m
  | .tuple l, .tuple m => AV.beqs l m
  | .bad, .bad => true
  | _, _ => false
def AV.beqs : List AV → List AV → Bool
  | [], [] => true
  | a :: l, b :: m => AV.beq a b && AV.beqs l m
  | _, _ => false
end

theorem beqFn_eq {a b : Fn} (h : beqFn a b = true) : a = b := by
  unfold beqFn at h
  split at h
  · rw [Nat.eq_of_beq_eq_true h]
  · cases h
theorem beqInt_eq {a b : Int} (h : beqInt a b = true) : a = b := by
  unfold beqInt at h
  split at h
  · rw [Nat.eq_of_beq_eq_true h]
  · rw [Nat.eq_of_beq_eq_true h]
  · cases h
theorem beqPos_eq {a b : Option (Nat × Nat)} (h : beqPos a b = true) : a = b := by
  unfold beqPos at h
  split at h
  · rfl
  · simp only [Bool.and_eq_true] at h
    rw [Nat.eq_of_beq_eq_true h.1, Nat.eq_of_beq_eq_true h.2]
  · cases h
theorem beqOpt_eq {a b : Option Nat} (h : beqOpt a b = true) : a = b := by
  unfold beqOpt at h
  split at h
  · rfl
  · rw [Nat.eq_of_beq_eq_true h]
  · cases h
theorem beqBool_eq {a b : Bool} (h : beqBool a b = true) : a = b := by
  cases a <;> cases b <;> first | rfl | cases h
mutual
theorem AV.beq_eq : ∀ (a b : AV), AV.beq a b = true → a = b
  | .bool a, b, h => by cases b <;> simp only [AV.beq, reduceCtorEq] at h <;> first | rw [beqBool_eq h] | cases h
  | .int k a, b, h => by
    cases b <;> simp only [AV.beq, reduceCtorEq] at h <;> first | (simp only [Bool.and_eq_true, decide_eq_true_eq] at h; rw [h.1, beqInt_eq h.2]) | cases h
  | .str a, b, h => by cases b <;> simp only [AV.beq, reduceCtorEq] at h <;> first | (rw [beqBytes_eq, decide_eq_true_eq] at h; rw [h]) | cases h
  | .ptr a, b, h => by cases b <;> simp only [AV.beq, reduceCtorEq] at h <;> first | rw [beqPos_eq h] | cases h
  | .slice a l s f, b, h => by
    cases b <;> simp only [AV.beq, reduceCtorEq] at h <;> first | (simp only [Bool.and_eq_true] at h; rw [beqPos_eq h.1, Nat.eq_of_beq_eq_true h.2.1, Nat.eq_of_beq_eq_true h.2.2.1, beqBool_eq h.2.2.2]) | cases h
  | .map a, b, h => by cases b <;> simp only [AV.beq, reduceCtorEq] at h <;> first | rw [beqOpt_eq h] | cases h
  | .func f a c, b, h => by
    cases b <;> simp only [AV.beq, reduceCtorEq] at h <;> first | (simp only [Bool.and_eq_true] at h; rw [beqFn_eq h.1, AV.beqs_eq _ _ h.2.1, AV.beqs_eq _ _ h.2.2]) | cases h
  | .nilFunc, b, h => by cases b <;> simp only [AV.beq, reduceCtorEq] at h <;> first | rfl | cases h
  | .iface t v, b, h => by
    cases b <;> simp only [AV.beq, reduceCtorEq] at h <;> first | (simp only [Bool.and_eq_true] at h; rw [Nat.eq_of_beq_eq_true h.1, AV.beq_eq _ _ h.2]) | cases h
  | .nilIface, b, h => by cases b <;> simp only [AV.beq, reduceCtorEq] at h <;> first | rfl | cases h
  | .agg l, b, h => by cases b <;> simp only [AV.beq, reduceCtorEq] at h <;> first | rw [AV.beqs_eq _ _ h] | cases h
  | .tuple l, b, h => by cases b <;> simp only [AV.beq, reduceCtorEq] at h <;> first | rw [AV.beqs_eq _ _ h] | cases h
  | .bad, b, h => by cases b <;> simp only [AV.beq, reduceCtorEq] at h <;> first | rfl | cases h
theorem AV.beqs_eq : ∀ (a b : List AV), AV.beqs a b = true → a = b
  | [], b, h => by cases b <;> first | rfl | (simp [AV.beqs] at h)
  | x :: l, b, h => by
    cases b with
    | nil => simp [AV.beqs] at h
    | cons y m =>
      simp only [AV.beqs, Bool.and_eq_true] at h
      rw [AV.beq_eq _ _ h.1, AV.beqs_eq _ _ h.2]
end

/-! ## light operations -/
/-- what an operation gives that only reads -/
def alight (P : Program) (H : AHeap) (T : Trie AV) (op : Op) : Option AV :=
  match op with
  | .move x => some (aeval H T x)
  | .assign x => some (aeval H T x)
  | .pick c a b => match aeval H T c with
    | .bool true => some (aeval H T a)
    | .bool false => some (aeval H T b)
    | _ => none
  | .build t parts => abuild P t (aparts H T parts.toList)
  | .load t a => aload P H t (aeval H T a)
  | .nilCheck x => anilCheck (aeval H T x)
  | .binOp op t x y _ => abin P op t x y (aeval H T x) (aeval H T y)
  | .unOp op _ x => aun op (aeval H T x)
  | .convert s d x => match aeval H T x with
    | .int k n => match aconv P H s d (.int k n) with
      | some (v, _) => some v
      | none => none
    | _ => none
  | .makeInterface t x => amakeIface P t (aeval H T x)
  | .makeFunc fn first cap => match fn with
    | .func g => some (.func (.func g) (aevals H T first.toList) (aevals H T cap.toList))
    | _ => none
  | .slice t x lo hi mx => aslice P t (aeval H T x) (aopt H T lo) (aopt H T hi) (aopt H T mx)
  | .fieldAddr t x f => afieldAddr P t (aeval H T x) f
  | .field t x f => afield P t (aeval H T x) f
  | .indexAddr t x i => aindexAddr P t (aeval H T x) (aeval H T i)
  | .index t x i => aindex P t (aeval H T x) (aeval H T i)
  | .lookup t x i ok => alookup P H t (aeval H T x) (aeval H T i) ok
  | .typeAssert x xt t ok => atypeAssert P (aeval H T x) xt t ok
  | .extract t i => aextract (aeval H T t) i
  | .call c => match c.callee with
    | .builtin b => match b, c.argTypes.toList, aevals H T c.args.toList with
      | .len, [t], [x] => alen P H t x
      | .min, _, x :: l => afold2 amin2 x l
      | .max, _, x :: l => afold2 amax2 x l
      | _, _, _ => none
    | _ => none
  | _ => none

theorem alight_aexec {T : Trie AV} {op : Op} {v : AV} (h : alight P H T op = some v) : aexec P H T op = .val v H := by
  cases op <;> simp only [alight, reduceCtorEq] at h <;> simp only [aexec] <;> first
    | (cases h; rfl)
    | (rw [h]; rfl)
    | skip
  case pick => split at h <;> cases h <;> simp_all
  case convert s d x =>
    split at h
    · rename_i k n hx
      rw [hx]
      split at h
      · rename_i v' H' hc
        cases h
        have : H' = H := by
          unfold aconv at hc
          simp only at hc
          split at hc <;> cases hc
          rfl
        rw [hc, this]; rfl
      · cases h
    · cases h
  case makeFunc fn first cap => cases fn <;> simp_all
  case call c =>
    unfold acall
    split at h
    · rename_i b hc
      rw [hc]
      simp only
      unfold abuiltin
      split at h
      · rename_i t x ht hx
        rw [hx, ht]
        simp only
        rw [h]; rfl
      · rename_i ts x l hx
        rw [hx]
        simp only
        rw [h]; rfl
      · rename_i ts x l hx
        rw [hx]
        simp only
        rw [h]; rfl
      · cases h
    · cases h

def shOf : AV → Option Sh
  | .ptr _ => some .ptr
  | .slice _ l s f => some (.slice l s f)
  | .map _ => some .map
  | _ => none

/-- what an operation makes, in a heap of nothing -/
def amake (P : Program) (H : AHeap) (T : Trie AV) (op : Op) : Option (Sh × AObj) :=
  match op with
  | .alloc t => match P.info? t with
    | some i => match i.zero with
      | some z => match (absv 8 z).cells? with
        | some l => some (.ptr, .row true [] l)
        | none => none
      | none => none
    | none => none
  | .box _ x => match (aeval H T x).cells? with
    | some l => some (.ptr, .row true [] l)
    | none => none
  | .buildSlice t len parts => match abuildSlice P ⟨.leaf, 0, 0⟩ t len (aparts H T parts.toList) with
    | some (v, H') => match shOf v, H'.get 0 with
      | some sh, some o => some (sh, o)
      | _, _ => none
    | none => none
  | .makeSlice t l c => match amakeSlice P ⟨.leaf, 0, 0⟩ t (aeval H T l) (aeval H T c) with
    | some (v, H') => match shOf v, H'.get 0 with
      | some sh, some o => some (sh, o)
      | _, _ => none
    | none => none
  | .makeMap t r => match amakeMap P ⟨.leaf, 0, 0⟩ t (aopt H T r) with
    | some _ => some (.map, .map [])
    | none => none
  | _ => none

theorem amake_aexec {T : Trie AV} {op : Op} {sh : Sh} {o : AObj} (h : amake P H T op = some (sh, o)) (H2 : AHeap) (he : ∀ x ∈ op.operands.toList, aeval H2 T x = aeval H T x) : True := trivial

theorem abuildSlice_any {t : TypeId} {len : Nat} {parts : List (Nat × AV)} {sh : Sh} {o : AObj} {v : AV} {H' : AHeap} (h : abuildSlice P ⟨.leaf, 0, 0⟩ t len parts = some (v, H')) (h1 : shOf v = some sh) (h2 : H'.get 0 = some o) (H : AHeap) :
    abuildSlice P H t len parts = some (sh.mk H.next, H.alloc o) := by
  unfold abuildSlice at h ⊢
  repeat' (split at h <;> try (cases h; done))
  cases h
  try simp only [*]
  simp only [shOf, Option.some.injEq] at h1
  subst h1
  simp only [anew, AHeap.get_alloc, if_true, Option.some.injEq] at h2
  subst h2
  rfl
theorem amakeSlice_any {t : TypeId} {l c : AV} {sh : Sh} {o : AObj} {v : AV} {H' : AHeap} (h : amakeSlice P ⟨.leaf, 0, 0⟩ t l c = some (v, H')) (h1 : shOf v = some sh) (h2 : H'.get 0 = some o) (H : AHeap) :
    amakeSlice P H t l c = some (sh.mk H.next, H.alloc o) := by
  unfold amakeSlice at h ⊢
  repeat' (split at h <;> try (cases h; done))
  cases h
  try simp only [*]
  simp only [shOf, Option.some.injEq] at h1
  subst h1
  simp only [anew, AHeap.get_alloc, if_true, Option.some.injEq] at h2
  subst h2
  rfl

theorem amake_exec {T : Trie AV} {op : Op} {sh : Sh} {o : AObj} (h : amake P H T op = some (sh, o)) : aexec P H T op = .val (sh.mk H.next) (H.alloc o) := by
  cases op <;> simp only [amake, reduceCtorEq] at h <;> simp only [aexec]
  case alloc t =>
    repeat' (split at h <;> try (cases h; done))
    cases h
    simp only [aalloc, *]
    rfl
  case box t x =>
    split at h
    · rename_i l hl
      cases h
      simp only [abox, hl]; rfl
    · cases h
  case buildSlice t len parts =>
    split at h
    · rename_i v H' hb
      split at h
      · rename_i sh' o' h1 h2
        cases h
        rw [abuildSlice_any hb h1 h2 H]; rfl
      · cases h
    · cases h
  case makeSlice t l c =>
    split at h
    · rename_i v H' hb
      split at h
      · rename_i sh' o' h1 h2
        cases h
        rw [amakeSlice_any hb h1 h2 H]; rfl
      · cases h
    · cases h
  case makeMap t r =>
    split at h
    · rename_i x hb
      cases h
      have : amakeMap P H t (aopt H T r) = some (.map (some H.next), H.alloc (.map [])) := by
        unfold amakeMap at hb ⊢
        repeat' (split at hb <;> try (cases hb; done))
        all_goals cases hb; simp_all
      rw [this]; rfl
    · cases h

end Go.Ah
