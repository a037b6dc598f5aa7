/- Binary and unary operations, comparisons, interfaces. -/
import Derived.Test.YtcapeganlaibhaaGreatDoorAhOps2
namespace Go.Ah

variable {P : Program} {j : J} {H : AHeap} {w : World}

def beqBytes : List UInt8 → List UInt8 → Bool
  | [], [] => true
  | a :: x, b :: y => match Nat.beq a.toNat b.toNat with
    | true => beqBytes x y
    | false => false
  | _, _ => false

theorem beqBytes_eq : ∀ (x y : List UInt8), beqBytes x y = decide (x = y)
  | [], [] => by simp [beqBytes]
  | [], b :: y => by simp [beqBytes]
  | a :: x, [] => by simp [beqBytes]
  | a :: x, b :: y => by
    simp only [beqBytes]
    split
    · rename_i h
      have h : a = b := UInt8.toNat_inj.1 (Nat.eq_of_beq_eq_true h)
      rw [beqBytes_eq x y]; simp [h]
    · rename_i h
      have h : a ≠ b := fun e => Nat.ne_of_beq_eq_false h (by rw [e])
      simp [h]

def bytesLt : List UInt8 → List UInt8 → Bool
  | _, [] => false
  | [], _ :: _ => true
  | a :: x, b :: y => match Nat.blt a.toNat b.toNat with
    | true => true
    | false => match Nat.beq a.toNat b.toNat with
      | true => bytesLt x y
      | false => false
theorem bytesLt_eq : ∀ (x y : List UInt8), bytesLt x y = Op.bytesLess x y
  | x, [] => by cases x <;> simp [bytesLt, Op.bytesLess]
  | [], b :: y => by simp [bytesLt, Op.bytesLess]
  | a :: x, b :: y => by
    simp only [bytesLt, Op.bytesLess]
    split
    · rename_i h
      have := blt_true h
      have : a < b := UInt8.lt_iff_toNat_lt.2 this
      simp [this]
    · rename_i h
      have h1 : ¬ a < b := fun hh => by
        have := UInt8.lt_iff_toNat_lt.1 hh
        have h' : Nat.blt a.toNat b.toNat = true := Nat.ble_eq_true_of_le this
        rw [h'] at h; cases h
      split
      · rename_i h2
        have h2 : a = b := UInt8.toNat_inj.1 (Nat.eq_of_beq_eq_true h2)
        rw [bytesLt_eq x y]; simp [h2]
      · rename_i h2
        have h2 : a ≠ b := fun e => Nat.ne_of_beq_eq_false h2 (by rw [e])
        simp [h1, h2]

/-! ## equality by type -/
def aeqFields (eq : TypeId → AV → AV → Option Bool) (P : Program) (xs ys : List AV) : List Field → Option Bool
  | [] => some true
  | f :: fs => match decide (f.name ≠ "_") with
    | true => match apart P f.type xs f.offset, apart P f.type ys f.offset with
      | some a, some b => match eq f.type a b with
        | some true => aeqFields eq P xs ys fs
        | some false => some false
        | none => none
      | _, _ => none
    | false => aeqFields eq P xs ys fs

def aeq (P : Program) : Nat → TypeId → AV → AV → Option Bool
  | 0, _, _, _ => none
  | n + 1, t, x, y =>
    match x, y with
    | .bool a, .bool b => match P.underlying t with
      | some .bool => some (a == b)
      | _ => none
    | .int k a, .int k' b => match P.underlying t with
      | some (.int _) => match decide (k = k') with
        | true => some (a == b)
        | false => none
      | _ => none
    | .str a, .str b => match P.underlying t with
      | some .string => some (beqBytes a b)
      | _ => none
    | .ptr none, .ptr b => match P.underlying t with
      | some (.pointer _) => some b.isNone
      | _ => none
    | .ptr (some _), .ptr none => match P.underlying t with
      | some (.pointer _) => some false
      | _ => none
    | .ptr (some (b, o)), .ptr (some (b', o')) => match P.underlying t with
      | some (.pointer e) => match szT P e with
        | some (_ + 1) => match Nat.beq b b' with
          | true => some (Nat.beq o o')
          | false => none
        | _ => none
      | _ => none
    | .nilIface, .nilIface => match P.underlying t with
      | some (.interface _) => some true
      | _ => none
    | .nilIface, .iface _ _ => match P.underlying t with
      | some (.interface _) => some false
      | _ => none
    | .iface _ _, .nilIface => match P.underlying t with
      | some (.interface _) => some false
      | _ => none
    | .iface tx vx, .iface ty vy => match P.underlying t with
      | some (.interface _) => match Nat.beq tx ty with
        | false => some false
        | true => match P.info? tx with
          | some i => match i.comparable with
            | true => aeq P n tx vx vy
            | false => none
          | none => none
      | _ => none
    | .slice none 0 _ _, .slice b _ _ _ => match P.underlying t with
      | some (.slice _) => some b.isNone
      | _ => none
    | .slice (some _) _ _ _, .slice none 0 _ _ => match P.underlying t with
      | some (.slice _) => some false
      | _ => none
    | .map none, .map b => match P.underlying t with
      | some (.map _ _) => some b.isNone
      | _ => none
    | .map (some _), .map none => match P.underlying t with
      | some (.map _ _) => some false
      | _ => none
    | .nilFunc, .nilFunc => match P.underlying t with
      | some (.func _ _ _) => some true
      | _ => none
    | .nilFunc, .func _ _ _ => match P.underlying t with
      | some (.func _ _ _) => some false
      | _ => none
    | .func _ _ _, .nilFunc => match P.underlying t with
      | some (.func _ _ _) => some false
      | _ => none
    | .agg xs, .agg ys => match P.underlying t with
      | some (.struct fs) => match P.stoodInHeld t with
        | false => aeqFields (aeq P n) P xs ys fs.toList
        | true => none
      | _ => none
    | _, _ => none

theorem aeqFields_sound {eq : TypeId → AV → AV → Option Bool} {d : Nat} (heq : ∀ t x y b x' y', eq t x y = some b → VRel j x x' → VRel j y y' → (Op.equalIn d t x' y').run P w = .ok b w)
    {xs ys : List AV} {xs' ys' : List Value} (hx : VRels j xs xs') (hy : VRels j ys ys') : ∀ (fs : List Field) (b : Bool), aeqFields eq P xs ys fs = some b → (Op.eqFields d xs'.toArray ys'.toArray fs).run P w = .ok b w
  | [], b, h => by simp only [aeqFields, Option.some.injEq] at h; subst h; rfl
  | f :: fs, b, h => by
    simp only [aeqFields] at h
    simp only [Op.eqFields]
    split at h
    · rename_i hn
      have hn := of_decide_eq_true hn
      rw [if_pos hn]
      split at h
      · rename_i a1 b1 ha hb
        obtain ⟨a1', h1, h2⟩ := apart_sound (w := w) hx ha
        obtain ⟨b1', h3, h4⟩ := apart_sound (w := w) hy hb
        split at h
        · rename_i he
          have he := heq _ _ _ _ _ _ he h2 h4
          simp [h1, h3, he, aeqFields_sound heq hx hy fs b h]
        · rename_i he
          have he := heq _ _ _ _ _ _ he h2 h4
          cases h
          simp [h1, h3, he]
        · cases h
      · cases h
    · rename_i hn
      have hn := of_decide_eq_false hn
      rw [if_neg hn]
      exact aeqFields_sound heq hx hy fs b h

set_option maxHeartbeats 2000000 in
theorem aeq_sound (d : Nat) : ∀ (n : Nat) (t : TypeId) (x y : AV) (b : Bool) (x' y' : Value), aeq P n t x y = some b → VRel j x x' → VRel j y y' → (Op.equalIn (n + d) t x' y').run P w = .ok b w := by
  intro n
  induction n with
  | zero => intro t x y b x' y' h; simp [aeq] at h
  | succ n ih =>
    intro t x y b x' y' h hx hy
    rw [show n + 1 + d = (n + d) + 1 by omega]
    unfold aeq at h
    split at h <;> (try (cases h; done))
    · split at h
      · rename_i hu; cases h; cases hx; cases hy; simp [Op.equalIn, run_underlying hu]
      · cases h
    · split at h
      · rename_i hu
        split at h
        · cases h; cases hx; cases hy; simp [Op.equalIn, run_underlying hu, *]; rename_i hk; simp at hk; simp [hk]
        · cases h
      · cases h
    · split at h
      · rename_i hu; cases h; cases hx; cases hy
        rw [run_equalIn_string _ _ _ _ _ hu, beqBytes_eq]
        simp only [ByteArray.toList_mk, Result.ok.injEq, and_true]
        rw [Bool.eq_iff_iff]; simp
      · cases h
    · split at h
      · rename_i hu; cases h; cases hx; cases hy <;> simp [Op.equalIn, run_underlying hu]
      · cases h
    · split at h
      · rename_i hu; cases h; cases hx; cases hy; simp [Op.equalIn, run_underlying hu]
      · cases h
    · rename_i b0 o b0' o'
      split at h
      · rename_i hu
        split at h
        · rename_i m hs
          split at h
          · rename_i hb
            have hb := Nat.eq_of_beq_eq_true hb; subst hb
            cases h; cases hx with
            | ptr h1 => cases hy with
              | ptr h2 =>
                rename_i B base nn B' base' nn'
                have hee : (B', base', nn') = (B, base, nn) := by rw [h1] at h2; exact (Option.some.inj h2).symm
                cases hee
                have key : ((⟨B, base + o, none⟩ : Addr) == ⟨B, base + o', none⟩) = Nat.beq o o' := by
                  rw [Bool.eq_iff_iff]
                  constructor
                  · intro hh
                    have hh := eq_of_beq hh
                    have : base + o = base + o' := congrArg Addr.off hh
                    rw [show o = o' by omega]; exact Nat.beq_refl _
                  · intro hh
                    have hh := Nat.eq_of_beq_eq_true hh
                    rw [hh]; exact beq_self_eq_true _
                simp [Op.equalIn, run_underlying hu, run_sizeOfA hs, sameAddr, key]
          · cases h
        · cases h
      · cases h
    · split at h
      · rename_i hu; cases h; cases hx; cases hy; simp [Op.equalIn, run_underlying hu]
      · cases h
    · split at h
      · rename_i hu; cases h; cases hx; cases hy; simp [Op.equalIn, run_underlying hu]
      · cases h
    · split at h
      · rename_i hu; cases h; cases hx; cases hy; simp [Op.equalIn, run_underlying hu]
      · cases h
    · split at h
      · rename_i hu
        split at h
        · rename_i hne
          have hne := Nat.ne_of_beq_eq_false hne
          cases h; cases hx; cases hy
          simp [Op.equalIn, run_underlying hu, hne]
        · rename_i hne
          have hne := Nat.eq_of_beq_eq_true hne; subst hne
          split at h
          · rename_i i hi
            split at h
            · rename_i hc
              cases hx with
              | iface h1 => cases hy with
                | iface h2 =>
                  have := ih _ _ _ _ _ _ h h1 h2
                  simp [Op.equalIn, run_underlying hu, run_typeInfoA hi, hc, this]
            · cases h
          · cases h
      · cases h
    · split at h
      · rename_i hu; cases h; cases hx; cases hy <;> simp [Op.equalIn, run_underlying hu]
      · cases h
    · split at h
      · rename_i hu; cases h; cases hx <;> cases hy <;> simp [Op.equalIn, run_underlying hu]
      · cases h
    · split at h
      · rename_i hu; cases h; cases hx; cases hy <;> simp [Op.equalIn, run_underlying hu]
      · cases h
    · split at h
      · rename_i hu; cases h; cases hx; cases hy; simp [Op.equalIn, run_underlying hu]
      · cases h
    · split at h
      · rename_i hu; cases h; cases hx; cases hy; simp [Op.equalIn, run_underlying hu]
      · cases h
    · split at h
      · rename_i hu; cases h; cases hx; cases hy; simp [Op.equalIn, run_underlying hu]
      · cases h
    · split at h
      · rename_i hu; cases h; cases hx; cases hy; simp [Op.equalIn, run_underlying hu]
      · cases h
    · split at h
      · rename_i fs hu
        split at h
        · rename_i hst
          cases hx with
          | agg h1 => cases hy with
            | agg h2 =>
              have hf : P.fieldsOf t = fs := by simp [Program.fieldsOf, hu]
              rw [run_equalIn_struct w _ _ _ _ (by rw [hf]; exact hu) hst, hf]
              exact aeqFields_sound (fun t x y b x' y' he hx hy => ih t x y b x' y' he hx hy) h1 h2 _ _ h
        · cases h
      · cases h


/-! ## binary operations -/
def isConstO : Operand → Bool
  | .const _ => true
  | _ => false

def abin (P : Program) (op : BinOp) (t : TypeId) (xo yo : Operand) (x y : AV) : Option AV :=
  match x, y with
  | .int k a, .int k' b => pureOf (Go.binOp op t (.int k a) (.int k' b))
  | .str a, .str b => match op with
    | .add => match Nat.ble (a.length + b.length) 4611686018427387904 with
      | true => some (.str (a ++ b))
      | false => none
    | .eql => some (.bool (beqBytes a b))
    | .neq => some (.bool (!beqBytes a b))
    | .lss => some (.bool (bytesLt a b))
    | .leq => some (.bool (bytesLt a b || beqBytes a b))
    | .gtr => some (.bool (!(bytesLt a b || beqBytes a b)))
    | .geq => some (.bool (!bytesLt a b))
    | _ => none
  | .nilIface, .nilIface => match isConstO xo || isConstO yo with
    | true => match op with
      | .eql => match aeq P 6 t .nilIface .nilIface with
        | some b => some (.bool b)
        | none => none
      | .neq => match aeq P 6 t .nilIface .nilIface with
        | some b => some (.bool (!b))
        | none => none
      | _ => none
    | false => none
  | .agg xs, .agg ys => match P.eqGuardType P.depth t with
    | false => match op with
      | .eql => match aeq P 6 t (.agg xs) (.agg ys) with
        | some b => some (.bool b)
        | none => none
      | .neq => match aeq P 6 t (.agg xs) (.agg ys) with
        | some b => some (.bool (!b))
        | none => none
      | _ => none
    | true => none
  | .bad, _ => none
  | _, .bad => none
  | .tuple _, _ => none
  | .str _, _ => none
  | .int _ _, _ => none
  | .agg _, _ => none
  | x, y => match op with
    | .eql => match aeq P 6 t x y with
      | some b => some (.bool b)
      | none => none
    | .neq => match aeq P 6 t x y with
      | some b => some (.bool (!b))
      | none => none
    | _ => none

/-- what the model does at '==' and '!=' where neither side is a number or a text -/
theorem binOp_eql_other {t : TypeId} {x y : AV} {x' y' : Value} {b : Bool} (hx : VRel j x x') (hy : VRel j y y') (he : aeq P 6 t x y = some b) (h1 : ∀ k n, x ≠ .int k n) (h2 : ∀ s, x ≠ .str s) :
    (Go.binOp .eql t x' y').run P w = .ok (.bool b) w ∧ (Go.binOp .neq t x' y').run P w = .ok (.bool (!b)) w := by
  have h := aeq_sound (P := P) (w := w) 9994 6 t x y b x' y' he hx hy
  have hq : (Op.equal t x' y').run P w = .ok b w := h
  have hno : ∀ k n, x' ≠ .int k n := fun k n e => by subst e; cases hx <;> first | exact h1 _ _ rfl | (simp [aeq] at he)
  have hns : ∀ s, x' ≠ .string s := fun s e => by subst e; cases hx <;> first | exact h2 _ rfl | (simp [aeq] at he)
  have hnf : ∀ k n, x' ≠ .float k n := fun k n e => by subst e; cases hx; simp [aeq] at he
  have hnc : ∀ k n m, x' ≠ .complex k n m := fun k n m e => by subst e; cases hx; simp [aeq] at he
  constructor <;> (cases x' <;> first | exact absurd rfl (hno _ _) | exact absurd rfl (hns _) | exact absurd rfl (hnf _ _) | exact absurd rfl (hnc _ _ _) | (simp only [Go.binOp, Sem.run_bind, hq, Result.andThen_ok, Sem.run_pure]))

end Go.Ah
