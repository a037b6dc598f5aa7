/- The abstract heap, its relation to a world, and what may change in a step. -/
import Derived.Test.YtcapeganlaibhaaGreatDoorAhCore
namespace Go.Ah

inductive AObj where
  /-- a row of cells; w: it may be written; olds: older rows that may lie in the same memory -/
  | row (w : Bool) (olds : List Nat) (cells : List AV)
  | map (es : List (AV × AV))
  | iter (m : Option Nat) (left : List (AV × AV)) (n : Nat)

def AObj.wr : AObj → Bool
  | .row w _ _ => w
  | _ => true
def AObj.olds : AObj → List Nat
  | .row _ o _ => o
  | _ => []

structure AHeap where
  objs : Trie AObj
  next : Nat
  /-- the numbers below stand for package-level variables -/
  gn : Nat := 0

namespace AHeap
def get (H : AHeap) (b : Nat) : Option AObj := H.objs.get b
def put (H : AHeap) (b : Nat) (o : AObj) : AHeap := { H with objs := H.objs.put b (some o) }
def alloc (H : AHeap) (o : AObj) : AHeap := { H with objs := H.objs.put H.next (some o), next := H.next + 1 }
def kill (H : AHeap) : List Nat → AHeap
  | [] => H
  | b :: l => kill { H with objs := H.objs.put b none } l

theorem get_put (H : AHeap) (b k : Nat) (o : AObj) : (H.put b o).get k = if k = b then some o else H.get k := Trie.get_put _ _ _ _
theorem get_alloc (H : AHeap) (k : Nat) (o : AObj) : (H.alloc o).get k = if k = H.next then some o else H.get k := Trie.get_put _ _ _ _
theorem next_put (H : AHeap) (b : Nat) (o : AObj) : (H.put b o).next = H.next := rfl
theorem next_alloc (H : AHeap) (o : AObj) : (H.alloc o).next = H.next + 1 := rfl
theorem gn_put (H : AHeap) (b : Nat) (o : AObj) : (H.put b o).gn = H.gn := rfl
theorem gn_alloc (H : AHeap) (o : AObj) : (H.alloc o).gn = H.gn := rfl
theorem gn_kill (l : List Nat) : ∀ (H : AHeap), (H.kill l).gn = H.gn := by
  induction l with
  | nil => intro H; rfl
  | cons b l ih => intro H; exact ih _
theorem next_kill (l : List Nat) : ∀ (H : AHeap), (H.kill l).next = H.next := by
  induction l with
  | nil => intro H; rfl
  | cons b l ih => intro H; exact ih _
theorem get_kill (l : List Nat) : ∀ (H : AHeap) (k : Nat), (H.kill l).get k = if k ∈ l then none else H.get k := by
  induction l with
  | nil => intro H k; simp [kill]
  | cons b l ih =>
    intro H k
    simp only [kill, ih, List.mem_cons]
    by_cases h : k ∈ l
    · simp [h]
    · by_cases e : k = b
      · simp [e]; intro _; simp [get, Trie.get_put]
      · simp [h, e]; simp [get, Trie.get_put, e]
end AHeap

/-- entries of a map, in some order -/
def EntRel (j : J) : List (AV × AV) → List MapEntry → Prop
  | [], [] => True
  | (k, v) :: es, e :: l => VRel j k e.key ∧ VRel j v e.val ∧ EntRel j es l
  | _, _ => False

def ORel (j : J) (o : AObj) (e : Nat × Nat × Nat) (w : World) : Prop :=
  match o with
  | .row wr _ cells => ∃ c E fr, w.heap[e.1]? = some (.cells c E fr) ∧ e.2.1 + e.2.2 ≤ c.size ∧ cells.length ≤ e.2.2 ∧
      (∀ i v, cells[i]? = some v → ∃ x, c[e.2.1 + i]? = some x ∧ VRel j v x) ∧
      (wr = true → ∀ i, i < e.2.2 → ¬ (fr.1 ≤ e.2.1 + i ∧ e.2.1 + i < fr.2))
  | .map es => ∃ ents clock l, w.heap[e.1]? = some (.map ents clock) ∧ l.Perm ents.toList ∧ EntRel j es l ∧
      (ents.toList.map (·.born)).Nodup ∧ (∀ x ∈ ents.toList, x.born < clock)
  | .iter _ _ _ => False

structure Rel (j : J) (H : AHeap) (w : World) : Prop where
  gnn : H.gn ≤ H.next
  glob : ∀ g o, g < H.gn → H.get g = some o → ∃ n, j g = some (g, 0, n)
  bound : ∀ b, H.next ≤ b → j b = none
  low : ∀ b, H.next ≤ b → H.get b = none
  objs : ∀ b o e, H.get b = some o → j b = some e → ORel j o e w
  apart : ∀ b1 b2 o1 o2 e1 e2, H.get b1 = some o1 → o1.wr = true → j b1 = some e1 → H.get b2 = some o2 → j b2 = some e2 → e1.1 = e2.1 → b1 = b2 ∨ b2 ∈ o1.olds
  fixed : ∀ b1 b2 o1, H.get b1 = some o1 → b2 ∈ o1.olds → b2 < H.next ∧ ∀ o2, H.get b2 = some o2 → o2.wr = false ∧ j b2 ≠ none
  ends : ∀ b1 b2 w1 w2 l1 l2 c1 c2 e1 e2, H.get b1 = some (.row w1 l1 c1) → b2 ∈ l1 → H.get b2 = some (.row w2 l2 c2) → j b1 = some e1 → j b2 = some e2 → e1.1 = e2.1 → e2.2.1 + c2.length ≤ e1.2.1 + c1.length

/-- the blocks that may be written -/
def WBlock (j : J) (H : AHeap) (B : Nat) : Prop := ∃ b o e, H.get b = some o ∧ o.wr = true ∧ j b = some e ∧ e.1 = B

structure Ext (j : J) (H : AHeap) (w : World) (j' : J) (H' : AHeap) (w' : World) : Prop where
  le : j.le j'
  next : H.next ≤ H'.next
  size : w.heap.size ≤ w'.heap.size
  frame : ∀ B, B < w.heap.size → ¬ WBlock j H B → w'.heap[B]? = w.heap[B]?
  newW : ∀ B, WBlock j' H' B → WBlock j H B ∨ w.heap.size ≤ B
  virt : ∀ b, b < H.next → j b = none → j' b = none ∧ H'.get b = H.get b
  tape : w'.tape = w.tape
  os : w'.os = w.os
  output : w'.output = w.output

theorem Ext.refl (j : J) (H : AHeap) (w : World) : Ext j H w j H w :=
  ⟨J.le_refl j, Nat.le_refl _, Nat.le_refl _, fun _ _ _ => rfl, fun _ h => .inl h, fun _ _ h => ⟨h, rfl⟩, rfl, rfl, rfl⟩

theorem Ext.trans {j1 j2 j3 : J} {H1 H2 H3 : AHeap} {w1 w2 w3 : World} (a : Ext j1 H1 w1 j2 H2 w2) (b : Ext j2 H2 w2 j3 H3 w3) : Ext j1 H1 w1 j3 H3 w3 where
  le := J.le_trans a.le b.le
  next := Nat.le_trans a.next b.next
  size := Nat.le_trans a.size b.size
  frame := fun B hB hW => by
    rw [b.frame B (Nat.lt_of_lt_of_le hB a.size) (fun h => by rcases a.newW B h with h | h; exact hW h; omega)]
    exact a.frame B hB hW
  newW := fun B h => by
    rcases b.newW B h with h | h
    · exact a.newW B h
    · exact .inr (Nat.le_trans a.size h)
  virt := fun x hx hj => by
    obtain ⟨h1, h2⟩ := a.virt x hx hj
    obtain ⟨h3, h4⟩ := b.virt x (Nat.lt_of_lt_of_le hx a.next) h1
    exact ⟨h3, h4.trans h2⟩
  tape := b.tape.trans a.tape
  os := b.os.trans a.os
  output := b.output.trans a.output

/-- a draw changes nothing that is spoken of -/
theorem Rel.congr {j : J} {H : AHeap} {w w' : World} (h : Rel j H w) (hh : w'.heap = w.heap) : Rel j H w' where
  gnn := h.gnn
  glob := h.glob
  bound := h.bound
  low := h.low
  objs := fun b o e ho he => by
    have := h.objs b o e ho he
    cases o <;> simp only [ORel, hh] at this ⊢ <;> exact this
  apart := h.apart
  fixed := h.fixed
  ends := h.ends

theorem Ext.congr {j : J} {H : AHeap} {w w' : World} (hh : w'.heap = w.heap) (ht : w'.tape = w.tape) (ho : w'.os = w.os) (hp : w'.output = w.output) : Ext j H w j H w' :=
  ⟨J.le_refl j, Nat.le_refl _, by rw [hh]; exact Nat.le_refl _, fun _ _ _ => by rw [hh], fun _ h => .inl h, fun _ _ h => ⟨h, rfl⟩, ht, ho, hp⟩

theorem Rel.block_lt {j : J} {H : AHeap} {w : World} (h : Rel j H w) {b : Nat} {o : AObj} {e : Nat × Nat × Nat} (ho : H.get b = some o) (he : j b = some e) : e.1 < w.heap.size := by
  have := h.objs b o e ho he
  have key : ∀ x, w.heap[e.1]? = some x → e.1 < w.heap.size := fun x hx => by
    rcases Nat.lt_or_ge e.1 w.heap.size with h | h
    · exact h
    · rw [Array.getElem?_eq_none h] at hx; cases hx
  cases o with
  | row wr olds cells => obtain ⟨c, E, fr, hc, _⟩ := this; exact key _ hc
  | map es => obtain ⟨c, E, fr, hc, _⟩ := this; exact key _ hc
  | iter => exact this.elim

theorem EntRel.mono {j j' : J} (hj : j.le j') : ∀ {es : List (AV × AV)} {l : List MapEntry}, EntRel j es l → EntRel j' es l
  | [], [], _ => trivial
  | [], _ :: _, h => h.elim
  | (_, _) :: _, [], h => h.elim
  | (_, _) :: _, _ :: _, ⟨a, b, c⟩ => ⟨a.mono hj, b.mono hj, EntRel.mono hj c⟩

/-- an object reads as it did where its block does, and more places are known -/
theorem ORel.keep {j j' : J} {o : AObj} {e : Nat × Nat × Nat} {w w' : World} (h : ORel j o e w) (hj : j.le j') (hb : w'.heap[e.1]? = w.heap[e.1]?) : ORel j' o e w' := by
  cases o with
  | row wr olds cells =>
    obtain ⟨c, E, fr, hc, h1, h2, h3, h4⟩ := h
    exact ⟨c, E, fr, hb.trans hc, h1, h2, fun i v hv => let ⟨x, hx, hr⟩ := h3 i v hv; ⟨x, hx, hr.mono hj⟩, h4⟩
  | map es =>
    obtain ⟨c, E, l, hc, h1, h2, h3, h4⟩ := h
    exact ⟨c, E, l, hb.trans hc, h1, h2.mono hj, h3, h4⟩
  | iter => exact h.elim

def J.set (j : J) (b : Nat) (e : Nat × Nat × Nat) : J := fun x => if x = b then some e else j x
theorem J.set_self (j : J) (b : Nat) (e : Nat × Nat × Nat) : j.set b e b = some e := by simp [J.set]
theorem J.le_set {j : J} {b : Nat} (h : j b = none) (e : Nat × Nat × Nat) : j.le (j.set b e) := by
  intro x e' hx
  unfold J.set
  split
  · rename_i hxb; subst hxb; rw [h] at hx; cases hx
  · exact hx

/-- a new block that is like a new object -/
theorem Rel.alloc {j : J} {H : AHeap} {w : World} (h : Rel j H w) {o : AObj} {obj : Obj} {base n : Nat} (ho : ∀ x ∈ o.olds, x < H.next ∧ ∀ o2, H.get x = some o2 → o2.wr = false ∧ j x ≠ none)
    (hrel : ORel (j.set H.next (w.heap.size, base, n)) o (w.heap.size, base, n) { w with heap := w.heap.push obj }) :
    Rel (j.set H.next (w.heap.size, base, n)) (H.alloc o) { w with heap := w.heap.push obj } ∧
    Ext j H w (j.set H.next (w.heap.size, base, n)) (H.alloc o) { w with heap := w.heap.push obj } := by
  have hn : j H.next = none := h.bound _ (Nat.le_refl _)
  have hle := J.le_set hn (w.heap.size, base, n)
  have hold : ∀ k, k < w.heap.size → ({ w with heap := w.heap.push obj } : World).heap[k]? = w.heap[k]? := fun k hk => by
    show (w.heap.push obj)[k]? = _
    rw [Array.getElem?_push, if_neg (by omega)]
  have hnew : ∀ b e, j.set H.next (w.heap.size, base, n) b = some e → b ≠ H.next → j b = some e := fun b e hb hne => by
    simpa [J.set, hne] using hb
  constructor
  · refine ⟨by simp only [AHeap.gn_alloc, AHeap.next_alloc]; have := h.gnn; omega, fun g o' hg ho' => by
      simp only [AHeap.gn_alloc] at hg
      have := h.gnn
      rw [AHeap.get_alloc, if_neg (by omega)] at ho'
      obtain ⟨n', hn'⟩ := h.glob g o' hg ho'
      exact ⟨n', hle _ _ hn'⟩, fun b hb => ?_, fun b hb => ?_, fun b o' e hb he => ?_, fun b1 b2 o1 o2 e1 e2 h1 hw he1 h2 he2 hee => ?_, fun b1 b2 o1 h1 hin => ?_, fun b1 b2 w1 w2 l1 l2 c1 c2 e1 e2 h1 hin h2 he1 he2 hee => ?_⟩
    · simp only [AHeap.next_alloc] at hb
      simp only [J.set]; rw [if_neg (by omega)]; exact h.bound b (by omega)
    · simp only [AHeap.next_alloc] at hb
      rw [AHeap.get_alloc, if_neg (by omega)]; exact h.low b (by omega)
    · by_cases hbn : b = H.next
      · subst hbn
        rw [J.set_self] at he; cases he
        rw [AHeap.get_alloc, if_pos rfl] at hb; cases hb
        exact hrel
      · rw [AHeap.get_alloc, if_neg hbn] at hb
        have he' := hnew b e he hbn
        exact (h.objs b o' e hb he').keep hle (hold _ (h.block_lt hb he'))
    · rw [AHeap.get_alloc] at h1 h2
      by_cases hb1 : b1 = H.next
      · by_cases hb2 : b2 = H.next
        · exact .inl (hb1.trans hb2.symm)
        · rw [if_neg hb2] at h2
          have he2' := hnew b2 e2 he2 hb2
          have := h.block_lt h2 he2'
          subst hb1; rw [J.set_self] at he1; cases he1
          simp only at hee; omega
      · rw [if_neg hb1] at h1
        have he1' := hnew b1 e1 he1 hb1
        by_cases hb2 : b2 = H.next
        · have := h.block_lt h1 he1'
          subst hb2; rw [J.set_self] at he2; cases he2
          simp only at hee; omega
        · rw [if_neg hb2] at h2
          exact h.apart b1 b2 o1 o2 e1 e2 h1 hw he1' h2 (hnew b2 e2 he2 hb2) hee
    · rw [AHeap.get_alloc] at h1
      by_cases hb1 : b1 = H.next
      · rw [if_pos hb1] at h1; cases h1
        obtain ⟨h3, h4⟩ := ho b2 hin
        refine ⟨by simp only [AHeap.next_alloc]; omega, fun o2 h2 => ?_⟩
        rw [AHeap.get_alloc, if_neg (by omega)] at h2
        obtain ⟨h5, h6⟩ := h4 o2 h2
        exact ⟨h5, by simp only [J.set]; rw [if_neg (by omega)]; exact h6⟩
      · rw [if_neg hb1] at h1
        obtain ⟨h3, h4⟩ := h.fixed b1 b2 o1 h1 hin
        refine ⟨by simp only [AHeap.next_alloc]; omega, fun o2 h2 => ?_⟩
        rw [AHeap.get_alloc, if_neg (by omega)] at h2
        obtain ⟨h5, h6⟩ := h4 o2 h2
        exact ⟨h5, by simp only [J.set]; rw [if_neg (by omega)]; exact h6⟩
    · rw [AHeap.get_alloc] at h1 h2
      by_cases hb1 : b1 = H.next
      · rw [if_pos hb1] at h1; cases h1
        have hb2 : b2 ≠ H.next := by have := (ho b2 hin).1; omega
        rw [if_neg hb2] at h2
        have := h.block_lt h2 (hnew b2 e2 he2 hb2)
        subst hb1; rw [J.set_self] at he1; cases he1
        simp only at hee; omega
      · rw [if_neg hb1] at h1
        have hb2 : b2 ≠ H.next := by have := (h.fixed b1 b2 _ h1 hin).1; omega
        rw [if_neg hb2] at h2
        exact h.ends b1 b2 w1 w2 l1 l2 c1 c2 e1 e2 h1 hin h2 (hnew b1 e1 he1 hb1) (hnew b2 e2 he2 hb2) hee
  · refine ⟨hle, by simp [AHeap.next_alloc], by simp, fun B hB _ => hold B hB, fun B hB => ?_, fun b hb hj => ⟨?_, ?_⟩, rfl, rfl, rfl⟩
    · obtain ⟨b, o', e, hb, hw, he, rfl⟩ := hB
      by_cases hbn : b = H.next
      · subst hbn; rw [J.set_self] at he; cases he; exact .inr (Nat.le_refl _)
      · rw [AHeap.get_alloc, if_neg hbn] at hb
        exact .inl ⟨b, o', e, hb, hw, hnew b e he hbn, rfl⟩
    · simp only [J.set]; rw [if_neg (by omega)]; exact hj
    · rw [AHeap.get_alloc, if_neg (by omega)]

/-- the block of a row that may be written is written; its older rows are forgotten -/
theorem Rel.write {j : J} {H : AHeap} {w : World} (h : Rel j H w) {b : Nat} {o o' : AObj} {e : Nat × Nat × Nat} {obj : Obj} (hb : H.get b = some o) (hw : o.wr = true) (he : j b = some e)
    (ho' : o'.olds = []) (hrel : ORel j o' e { w with heap := w.heap.setIfInBounds e.1 obj }) :
    Rel j ((H.kill o.olds).put b o') { w with heap := w.heap.setIfInBounds e.1 obj } ∧
    Ext j H w j ((H.kill o.olds).put b o') { w with heap := w.heap.setIfInBounds e.1 obj } := by
  have hoth : ∀ k, k ≠ e.1 → ({ w with heap := w.heap.setIfInBounds e.1 obj } : World).heap[k]? = w.heap[k]? := fun k hk => by
    show (w.heap.setIfInBounds e.1 obj)[k]? = _
    rw [Array.getElem?_setIfInBounds_ne]; exact fun hh => hk hh.symm
  have hget : ∀ k o2, ((H.kill o.olds).put b o').get k = some o2 → k ≠ b → H.get k = some o2 ∧ k ∉ o.olds := fun k o2 hk hne => by
    rw [AHeap.get_put, if_neg hne, AHeap.get_kill] at hk
    split at hk
    · cases hk
    · exact ⟨hk, by assumption⟩
  have hbn : b < H.next := by
    rcases Nat.lt_or_ge b H.next with hlt | hge
    · exact hlt
    · rw [h.low b hge] at hb; cases hb
  have hblk : ∀ k o2 e2, ((H.kill o.olds).put b o').get k = some o2 → k ≠ b → j k = some e2 → e2.1 ≠ e.1 := fun k o2 e2 hk hne he2 heq => by
    obtain ⟨h1, h2⟩ := hget k o2 hk hne
    rcases h.apart b k o o2 e e2 hb hw he h1 he2 heq.symm with h3 | h3
    · exact hne h3.symm
    · exact h2 h3
  constructor
  · refine ⟨by simpa [AHeap.gn_put, AHeap.gn_kill, AHeap.next_put, AHeap.next_kill] using h.gnn, fun g o2 hg ho2 => by
      by_cases hgb : g = b
      · subst hgb; exact h.glob g o (by simpa [AHeap.gn_put, AHeap.gn_kill] using hg) hb
      · exact h.glob g o2 (by simpa [AHeap.gn_put, AHeap.gn_kill] using hg) (hget g o2 ho2 hgb).1, fun k hk => h.bound k (by simpa [AHeap.next_put, AHeap.next_kill] using hk), fun k hk => ?_, fun k o2 e2 hk he2 => ?_, fun b1 b2 o1 o2 e1 e2 h1 hw1 he1 h2 he2 hee => ?_, fun b1 b2 o1 h1 hin => ?_, fun b1 b2 w1 w2 l1 l2 c1 c2 e1 e2 h1 hin h2 he1 he2 hee => ?_⟩
    · simp only [AHeap.next_put, AHeap.next_kill] at hk
      rw [AHeap.get_put, if_neg (by omega), AHeap.get_kill]
      split
      · rfl
      · exact h.low k hk
    · by_cases hkb : k = b
      · subst hkb
        rw [he] at he2; cases he2
        rw [AHeap.get_put, if_pos rfl] at hk; cases hk
        exact hrel
      · exact (h.objs k o2 e2 (hget k o2 hk hkb).1 he2).keep (J.le_refl j) (hoth _ (hblk k o2 e2 hk hkb he2))
    · by_cases hb1 : b1 = b
      · by_cases hb2 : b2 = b
        · exact .inl (hb1.trans hb2.symm)
        · subst hb1; rw [he] at he1; cases he1
          exact absurd hee.symm (hblk b2 o2 e2 h2 hb2 he2)
      · by_cases hb2 : b2 = b
        · subst hb2; rw [he] at he2; cases he2
          exact absurd hee (hblk b1 o1 e1 h1 hb1 he1)
        · exact h.apart b1 b2 o1 o2 e1 e2 (hget b1 o1 h1 hb1).1 hw1 he1 (hget b2 o2 h2 hb2).1 he2 hee
    · by_cases hb1 : b1 = b
      · rw [hb1, AHeap.get_put, if_pos rfl] at h1; cases h1; rw [ho'] at hin; cases hin
      · obtain ⟨h1', _⟩ := hget b1 o1 h1 hb1
        obtain ⟨h3, h4⟩ := h.fixed b1 b2 o1 h1' hin
        refine ⟨by simpa [AHeap.next_put, AHeap.next_kill] using h3, fun o2 h2 => ?_⟩
        by_cases hb2 : b2 = b
        · have := (h4 o (hb2 ▸ hb)).1; rw [hw] at this; cases this
        · exact h4 o2 (hget b2 o2 h2 hb2).1
    · by_cases hb1 : b1 = b
      · rw [hb1, AHeap.get_put, if_pos rfl] at h1; cases h1
        simp only [AObj.olds] at ho'; rw [ho'] at hin; cases hin
      · obtain ⟨h1', _⟩ := hget b1 _ h1 hb1
        by_cases hb2 : b2 = b
        · have := ((h.fixed b1 b2 _ h1' hin).2 o (hb2 ▸ hb)).1; rw [hw] at this; cases this
        · exact h.ends b1 b2 w1 w2 l1 l2 c1 c2 e1 e2 h1' hin (hget b2 _ h2 hb2).1 he1 he2 hee
  · refine ⟨J.le_refl j, by simp [AHeap.next_put, AHeap.next_kill], by simp, fun B _ hB => hoth B (fun hh => hB ⟨b, o, e, hb, hw, he, hh.symm⟩), fun B hB => ?_, fun k hk hj => ⟨hj, ?_⟩, rfl, rfl, rfl⟩
    · obtain ⟨k, o2, e2, hk, hw2, he2, rfl⟩ := hB
      by_cases hkb : k = b
      · subst hkb; rw [he] at he2; cases he2; exact .inl ⟨k, o, e, hb, hw, he, rfl⟩
      · exact .inl ⟨k, o2, e2, (hget k o2 hk hkb).1, hw2, he2, rfl⟩
    · have hkb : k ≠ b := fun hh => by rw [hh, he] at hj; cases hj
      rw [AHeap.get_put, if_neg hkb, AHeap.get_kill]
      split
      · rename_i hin
        obtain ⟨_, h4⟩ := h.fixed b k o hb hin
        cases hg : H.get k with
        | none => rfl
        | some o2 => exact absurd hj (h4 o2 hg).2
      · rfl

/-- rows may be forgotten -/
theorem Rel.kill {j : J} {H : AHeap} {w : World} (h : Rel j H w) (L : List Nat) : Rel j (H.kill L) w := by
  have hget : ∀ k o2, (H.kill L).get k = some o2 → H.get k = some o2 := fun k o2 hk => by
    rw [AHeap.get_kill] at hk
    split at hk
    · cases hk
    · exact hk
  refine ⟨by simpa [AHeap.gn_kill, AHeap.next_kill] using h.gnn, fun g o2 hg ho2 => h.glob g o2 (by simpa [AHeap.gn_kill] using hg) (hget g o2 ho2), fun k hk => h.bound k (by simpa [AHeap.next_kill] using hk), fun k hk => ?_, fun k o2 e2 hk he2 => h.objs k o2 e2 (hget k o2 hk) he2,
    fun b1 b2 o1 o2 e1 e2 h1 hw1 he1 h2 he2 hee => h.apart b1 b2 o1 o2 e1 e2 (hget _ _ h1) hw1 he1 (hget _ _ h2) he2 hee, fun b1 b2 o1 h1 hin => ?_,
    fun b1 b2 w1 w2 l1 l2 c1 c2 e1 e2 h1 hin h2 he1 he2 hee => h.ends b1 b2 w1 w2 l1 l2 c1 c2 e1 e2 (hget _ _ h1) hin (hget _ _ h2) he1 he2 hee⟩
  · simp only [AHeap.next_kill] at hk
    rw [AHeap.get_kill]
    split
    · rfl
    · exact h.low k hk
  · obtain ⟨h3, h4⟩ := h.fixed b1 b2 o1 (hget _ _ h1) hin
    exact ⟨by simpa [AHeap.next_kill] using h3, fun o2 h2 => h4 o2 (hget _ _ h2)⟩

/-- of one row less is told: it is no longer written, or shorter -/
theorem Rel.less {j : J} {H : AHeap} {w : World} (h : Rel j H w) {b : Nat} {wr wr' : Bool} {olds olds' : List Nat} {cells cells' : List AV} (hb : H.get b = some (.row wr olds cells))
    (hwr : wr' = true → wr = true ∧ ∀ x ∈ olds, x ∈ olds' ∨ H.get x = none) (hold : ∀ x ∈ olds', x ∈ olds) (hcells : ∀ (i : Nat) v, cells'[i]? = some v → cells[i]? = some v)
    (hlen : cells'.length = cells.length ∨ (olds' = [] ∧ cells'.length ≤ cells.length)) :
    Rel j (H.put b (.row wr' olds' cells')) w := by
  have hbn : b < H.next := by
    rcases Nat.lt_or_ge b H.next with hlt | hge
    · exact hlt
    · rw [h.low b hge] at hb; cases hb
  have hl : cells'.length ≤ cells.length := by rcases hlen with h | h; omega; exact h.2
  refine ⟨h.gnn, fun g o2 hg ho2 => by
      rw [AHeap.get_put] at ho2
      split at ho2
      · rename_i hgb; subst hgb; exact h.glob g _ hg hb
      · exact h.glob g o2 hg ho2, fun k hk => h.bound k hk, fun k hk => ?_, fun k o2 e2 hk he2 => ?_, fun b1 b2 o1 o2 e1 e2 h1 hw1 he1 h2 he2 hee => ?_, fun b1 b2 o1 h1 hin => ?_, fun b1 b2 w1 w2 l1 l2 c1 c2 e1 e2 h1 hin h2 he1 he2 hee => ?_⟩
  · simp only [AHeap.next_put] at hk
    rw [AHeap.get_put, if_neg (by omega)]; exact h.low k hk
  · rw [AHeap.get_put] at hk
    split at hk
    · rename_i hkb; subst hkb; cases hk
      obtain ⟨c, E, fr, hc, h1, h2, h3, h4⟩ := h.objs k _ e2 hb he2
      exact ⟨c, E, fr, hc, h1, by omega, fun i v hv => h3 i v (hcells i v hv), fun hw => h4 (hwr hw).1⟩
    · exact h.objs k o2 e2 hk he2
  · have hx : ∃ o1', H.get b1 = some o1' ∧ o1'.wr = true ∧ ∀ x ∈ o1'.olds, x ∈ o1.olds ∨ H.get x = none := by
      rw [AHeap.get_put] at h1
      split at h1
      · rename_i hkb; subst hkb; cases h1
        obtain ⟨h5, h6⟩ := hwr hw1
        exact ⟨_, hb, h5, h6⟩
      · exact ⟨o1, h1, hw1, fun x hx => .inl hx⟩
    have hy : ∃ o2', H.get b2 = some o2' := by
      rw [AHeap.get_put] at h2
      split at h2
      · rename_i hkb; subst hkb; exact ⟨_, hb⟩
      · exact ⟨o2, h2⟩
    obtain ⟨o1', h1', hw1', ho1⟩ := hx
    obtain ⟨o2', h2'⟩ := hy
    rcases h.apart b1 b2 o1' o2' e1 e2 h1' hw1' he1 h2' he2 hee with h3 | h3
    · exact .inl h3
    · rcases ho1 b2 h3 with h4 | h4
      · exact .inr h4
      · rw [h4] at h2'; cases h2'
  · have hx : ∃ o1', H.get b1 = some o1' ∧ b2 ∈ o1'.olds := by
      rw [AHeap.get_put] at h1
      split at h1
      · rename_i hkb; subst hkb; cases h1; exact ⟨_, hb, hold _ hin⟩
      · exact ⟨o1, h1, hin⟩
    obtain ⟨o1', h1', hin'⟩ := hx
    obtain ⟨h3, h4⟩ := h.fixed b1 b2 o1' h1' hin'
    refine ⟨h3, fun o2 h2 => ?_⟩
    rw [AHeap.get_put] at h2
    split at h2
    · rename_i hkb; subst hkb; cases h2
      have h5 := h4 _ hb
      refine ⟨?_, h5.2⟩
      cases hw' : wr' with
      | false => rfl
      | true => have := (hwr hw').1; simp only [AObj.wr] at h5; rw [this] at h5; cases h5.1
    · exact h4 o2 h2
  · rw [AHeap.get_put] at h1 h2
    split at h1
    · rename_i hkb; subst hkb; cases h1
      split at h2
      · rename_i hkb; subst hkb; cases h2
        rw [he1] at he2; cases he2; omega
      · have h5 := h.ends b1 b2 wr w2 olds l2 cells c2 e1 e2 hb (hold _ hin) h2 he1 he2 hee
        rcases hlen with h6 | h6
        · omega
        · rw [h6.1] at hin; cases hin
    · split at h2
      · rename_i hkb; subst hkb; cases h2
        have h5 := h.ends b1 b2 w1 wr l1 olds c1 cells e1 e2 h1 hin hb he1 he2 hee
        omega
      · exact h.ends b1 b2 w1 w2 l1 l2 c1 c2 e1 e2 h1 hin h2 he1 he2 hee

/-- a row grows in its own memory: the elder row stays to be read -/
theorem Rel.share {j : J} {H : AHeap} {w : World} (h : Rel j H w) {b o : Nat} {olds : List Nat} {cells vs : List AV} {B base n : Nat} {obj : Obj} (hb : H.get b = some (.row true olds cells)) (he : j b = some (B, base, n))
    (ho : o ≤ cells.length) (hold : ORel j (.row false [] cells) (B, base, n) { w with heap := w.heap.setIfInBounds B obj })
    (holds : ∀ x wx lx cx bx nx, x ∈ olds → H.get x = some (.row wx lx cx) → j x = some (B, bx, nx) → ORel j (.row wx lx cx) (B, bx, nx) { w with heap := w.heap.setIfInBounds B obj })
    (hnew : ORel (j.set H.next (B, base + o, n - o)) (.row true (b :: olds) (cells.drop o ++ vs)) (B, base + o, n - o) { w with heap := w.heap.setIfInBounds B obj }) :
    Rel (j.set H.next (B, base + o, n - o)) ((H.put b (.row false [] cells)).alloc (.row true (b :: olds) (cells.drop o ++ vs))) { w with heap := w.heap.setIfInBounds B obj } ∧
    Ext j H w (j.set H.next (B, base + o, n - o)) ((H.put b (.row false [] cells)).alloc (.row true (b :: olds) (cells.drop o ++ vs))) { w with heap := w.heap.setIfInBounds B obj } := by
  have hn : j H.next = none := h.bound _ (Nat.le_refl _)
  have hle := J.le_set hn (B, base + o, n - o)
  have hoth : ∀ k, k ≠ B → ({ w with heap := w.heap.setIfInBounds B obj } : World).heap[k]? = w.heap[k]? := fun k hk => by
    show (w.heap.setIfInBounds B obj)[k]? = _
    rw [Array.getElem?_setIfInBounds_ne]; exact fun hh => hk hh.symm
  have hbn : b < H.next := by
    rcases Nat.lt_or_ge b H.next with hlt | hge
    · exact hlt
    · rw [h.low b hge] at hb; cases hb
  have hjn : ∀ b e, j.set H.next (B, base + o, n - o) b = some e → b ≠ H.next → j b = some e := fun b e hb hne => by
    simpa [J.set, hne] using hb
  -- what stands in the new table
  have hg : ∀ k, ((H.put b (.row false [] cells)).alloc (.row true (b :: olds) (cells.drop o ++ vs))).get k =
      if k = H.next then some (.row true (b :: olds) (cells.drop o ++ vs)) else if k = b then some (.row false [] cells) else H.get k := fun k => by
    rw [AHeap.get_alloc, AHeap.get_put]; rfl
  have hB : ∀ k o2 e2, H.get k = some o2 → k ≠ b → j k = some e2 → e2.1 = B → k ∈ olds := fun k o2 e2 hk hne he2 heq => by
    rcases h.apart b k _ o2 (B, base, n) e2 hb rfl he hk he2 heq.symm with h3 | h3
    · exact absurd h3.symm hne
    · exact h3
  constructor
  · refine ⟨by simp only [AHeap.gn_alloc, AHeap.gn_put, AHeap.next_alloc, AHeap.next_put]; have := h.gnn; omega, fun g o2 hg' ho2 => by
      simp only [AHeap.gn_alloc, AHeap.gn_put] at hg'
      have := h.gnn
      rw [hg, if_neg (by omega)] at ho2
      have h0 : ∃ n', j g = some (g, 0, n') := by
        split at ho2
        · rename_i hgb; subst hgb; exact h.glob g _ hg' hb
        · exact h.glob g o2 hg' ho2
      obtain ⟨n', hn'⟩ := h0
      exact ⟨n', hle _ _ hn'⟩, fun k hk => ?_, fun k hk => ?_, fun k o2 e2 hk he2 => ?_, fun b1 b2 o1 o2 e1 e2 h1 hw1 he1 h2 he2 hee => ?_, fun b1 b2 o1 h1 hin => ?_, fun b1 b2 w1 w2 l1 l2 c1 c2 e1 e2 h1 hin h2 he1 he2 hee => ?_⟩
    · simp only [AHeap.next_alloc, AHeap.next_put] at hk
      simp only [J.set]; rw [if_neg (by omega)]; exact h.bound k (by omega)
    · simp only [AHeap.next_alloc, AHeap.next_put] at hk
      rw [hg, if_neg (by omega), if_neg (by omega)]; exact h.low k (by omega)
    · rw [hg] at hk
      split at hk
      · rename_i hkn; subst hkn; cases hk
        rw [J.set_self] at he2; cases he2; exact hnew
      · rename_i hkn
        have he2' := hjn k e2 he2 hkn
        split at hk
        · rename_i hkb; subst hkb; cases hk
          rw [he] at he2'; cases he2'
          obtain ⟨c, E, fr, hc, h1, h2, h3, h4⟩ := hold
          exact ⟨c, E, fr, hc, h1, h2, fun i v hv => let ⟨x, hx, hr⟩ := h3 i v hv; ⟨x, hx, hr.mono hle⟩, h4⟩
        · rename_i hkb
          by_cases heB : e2.1 = B
          · have hin := hB k o2 e2 hk hkb he2' heB
            obtain ⟨e21, bx, nx⟩ := e2
            simp only at heB; subst heB
            have hold2 := h.objs k o2 _ hk he2'
            cases o2 with
            | row wx lx cx =>
              obtain ⟨c, E, fr, hc, h1, h2, h3, h4⟩ := holds k wx lx cx bx nx hin hk he2'
              exact ⟨c, E, fr, hc, h1, h2, fun i v hv => let ⟨x, hx, hr⟩ := h3 i v hv; ⟨x, hx, hr.mono hle⟩, h4⟩
            | map es => have := ((h.fixed b k _ hb hin).2 _ hk).1; cases this
            | iter => exact hold2.elim
          · exact (h.objs k o2 e2 hk he2').keep hle (hoth _ heB)
    · rw [hg] at h1 h2
      split at h1
      · rename_i hk1; subst hk1; cases h1
        rw [J.set_self] at he1; cases he1
        split at h2
        · rename_i hk2; exact .inl hk2.symm
        · rename_i hk2
          have he2' := hjn b2 e2 he2 hk2
          split at h2
          · rename_i hkb; exact .inr (by simp [AObj.olds, hkb])
          · rename_i hkb
            exact .inr (by simp [AObj.olds, hB b2 o2 e2 h2 hkb he2' hee.symm])
      · rename_i hk1
        have he1' := hjn b1 e1 he1 hk1
        split at h1
        · cases h1; simp [AObj.wr] at hw1
        · rename_i hkb1
          have hne : e1.1 ≠ B := fun heq => by
            have hin := hB b1 o1 e1 h1 hkb1 he1' heq
            have := ((h.fixed b b1 _ hb hin).2 _ h1).1
            rw [hw1] at this; cases this
          split at h2
          · rename_i hk2; subst hk2; rw [J.set_self] at he2; cases he2; exact absurd hee hne
          · rename_i hk2
            have he2' := hjn b2 e2 he2 hk2
            split at h2
            · rename_i hkb; subst hkb; rw [he] at he2'; cases he2'; exact absurd hee hne
            · exact h.apart b1 b2 o1 o2 e1 e2 h1 hw1 he1' h2 he2' hee
    · rw [hg] at h1
      split at h1
      · cases h1
        simp only [AObj.olds, List.mem_cons] at hin
        rcases hin with rfl | hin
        · refine ⟨by simp only [AHeap.next_alloc, AHeap.next_put]; omega, fun o2 h2 => ?_⟩
          rw [hg, if_neg (by omega), if_pos rfl] at h2; cases h2
          exact ⟨rfl, by simp only [J.set]; rw [if_neg (by omega), he]; simp⟩
        · obtain ⟨h3, h4⟩ := h.fixed b b2 _ hb hin
          refine ⟨by simp only [AHeap.next_alloc, AHeap.next_put]; omega, fun o2 h2 => ?_⟩
          rw [hg, if_neg (by omega)] at h2
          split at h2
          · rename_i hkb; cases h2
            exact ⟨rfl, by simp only [J.set]; rw [if_neg (by omega), hkb, he]; simp⟩
          · obtain ⟨h5, h6⟩ := h4 o2 h2
            exact ⟨h5, by simp only [J.set]; rw [if_neg (by omega)]; exact h6⟩
      · split at h1
        · cases h1; cases hin
        · obtain ⟨h3, h4⟩ := h.fixed b1 b2 o1 h1 hin
          refine ⟨by simp only [AHeap.next_alloc, AHeap.next_put]; omega, fun o2 h2 => ?_⟩
          rw [hg, if_neg (by omega)] at h2
          split at h2
          · rename_i hkb; cases h2
            exact ⟨rfl, by simp only [J.set]; rw [if_neg (by omega), hkb, he]; simp⟩
          · obtain ⟨h5, h6⟩ := h4 o2 h2
            exact ⟨h5, by simp only [J.set]; rw [if_neg (by omega)]; exact h6⟩
    · rw [hg] at h1 h2
      split at h1
      · rename_i hk1; subst hk1; cases h1
        rw [J.set_self] at he1; cases he1
        have hb2n : b2 ≠ H.next := by
          simp only [List.mem_cons] at hin
          rcases hin with rfl | hin
          · omega
          · have := (h.fixed b b2 _ hb hin).1; omega
        rw [if_neg hb2n] at h2
        have he2' := hjn b2 e2 he2 hb2n
        simp only [List.length_append, List.length_drop]
        split at h2
        · rename_i hkb; subst hkb; cases h2; rw [he] at he2'; cases he2'; simp only; omega
        · rename_i hkb
          have hin' : b2 ∈ olds := by simpa [hkb] using hin
          have h5 := h.ends b b2 true w2 olds l2 cells c2 (B, base, n) e2 hb hin' h2 he he2' hee
          simp only at h5; omega
      · rename_i hk1
        have he1' := hjn b1 e1 he1 hk1
        split at h1
        · cases h1; cases hin
        · rename_i hkb1
          have hb2n : b2 ≠ H.next := by have := (h.fixed b1 b2 _ h1 hin).1; omega
          rw [if_neg hb2n] at h2
          have he2' := hjn b2 e2 he2 hb2n
          split at h2
          · rename_i hkb; subst hkb; cases h2
            exact h.ends b1 b2 w1 true l1 olds c1 cells e1 e2 h1 hin hb he1' he2' hee
          · exact h.ends b1 b2 w1 w2 l1 l2 c1 c2 e1 e2 h1 hin h2 he1' he2' hee
  · refine ⟨hle, by simp only [AHeap.next_alloc, AHeap.next_put]; omega, by simp, fun k _ hk => hoth k (fun hh => hk ⟨b, _, _, hb, rfl, he, hh.symm⟩), fun k hk => ?_, fun k hk hj => ⟨?_, ?_⟩, rfl, rfl, rfl⟩
    · obtain ⟨x, o2, e2, hx, hw2, he2, rfl⟩ := hk
      rw [hg] at hx
      split at hx
      · rename_i hxn; subst hxn; rw [J.set_self] at he2; cases he2; exact .inl ⟨b, _, _, hb, rfl, he, rfl⟩
      · rename_i hxn
        split at hx
        · cases hx; cases hw2
        · exact .inl ⟨x, o2, e2, hx, hw2, hjn x e2 he2 hxn, rfl⟩
    · simp only [J.set]; rw [if_neg (by omega)]; exact hj
    · rw [hg, if_neg (by omega), if_neg]
      intro hh; rw [hh, he] at hj; cases hj
end Go.Ah
