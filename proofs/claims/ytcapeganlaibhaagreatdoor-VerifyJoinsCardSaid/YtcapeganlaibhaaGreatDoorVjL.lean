/- The law VerifyJoins returns true for any three states, and leaves them as they were. -/
import Derived.Test.YtcapeganlaibhaaGreatDoorVjJ
import Derived.Test.YtcapeganlaibhaaGreatDoorVjW
set_option linter.unusedVariables false
set_option linter.unusedSimpArgs false
namespace Go.Ah
/-- a slice of ints as it lies in a world -/
def IntsAt (W : World) (c : Value) (xs : List Int) : Prop :=
  (c = .slice none 0 0 ∧ xs = []) ∨ (∃ A, c = .slice (some A) 0 0 ∧ xs = []) ∨
  ∃ (b off cap : Nat) (zs : List Int), c = .slice (some ⟨b, off, none⟩) xs.length cap ∧ xs.length ≤ cap ∧ zs.length = cap ∧ zs.take xs.length = xs ∧ 0 < cap ∧ ∀ i, i < cap → W.cell? ⟨b, off + i, none⟩ = some (.int .i64 (zs.getD i 0))

theorem cell_block {W : World} {b o : Nat} {v : Value} (h : W.cell? ⟨b, o, none⟩ = some v) : ∃ c E fr, W.heap[b]? = some (.cells c E fr) ∧ c[o]? = some v := by
  unfold World.cell? at h
  simp only at h
  split at h <;> first | (rename_i c E fr hc; exact ⟨c, E, fr, hc, h⟩) | (cases h) | skip
  all_goals simp_all

/-- what stands for such a slice in the abstract heap: block i -/
theorem pack {W : World} {c : Value} {xs : List Int} {B0 : Nat} {c0 : Array Value} {E0 : TypeId} {fr0 : Nat × Nat} (hB0 : W.heap[B0]? = some (.cells c0 E0 fr0)) (h : IntsAt W c xs) (i : Nat) :
    ∃ (av : AV) (cells : List AV) (e : Nat × Nat × Nat), (∀ j : J, j i = some e → VRel j av c) ∧ (∀ j : J, ORel j (.row false [] cells) e W) ∧
      (∀ H : AHeap, i < H.next → H.get i = some (.row false [] cells) → Sl H av xs) := by
  rcases h with ⟨rfl, rfl⟩ | ⟨A, rfl, rfl⟩ | ⟨b, off, cap, zs, rfl, h1, h2, h3, h4, h5⟩
  · exact ⟨.slice none 0 0 true, [], (B0, 0, 0), fun j _ => .sliceNil, fun j => ⟨c0, E0, fr0, hB0, by simp, by simp, fun i v hv => by simp at hv, fun hf => by cases hf⟩, fun H _ _ => .inl ⟨rfl, rfl⟩⟩
  · exact ⟨.slice (some (i, 0)) 0 1 false, [], (B0, 0, 0), fun j hj => .sliceEmpty hj, fun j => ⟨c0, E0, fr0, hB0, by simp, by simp, fun i v hv => by simp at hv, fun hf => by cases hf⟩,
      fun H hi hg => .inr ⟨i, 0, false, false, [], [], rfl, hi, hg, rfl⟩⟩
  · obtain ⟨c, E, fr, hc, _⟩ := cell_block (h5 0 h4)
    have hcell : ∀ k, k < cap → c[off + k]? = some (.int .i64 (zs.getD k 0)) := fun k hk => by
      obtain ⟨c', E', fr', hc', hv⟩ := cell_block (h5 k hk)
      rw [hc] at hc'; cases hc'; exact hv
    refine ⟨.slice (some (i, 0)) xs.length 1 false, ints zs, (b, off, cap), fun j hj => ?_, fun j => ⟨c, E, fr, hc, ?_, by rw [ints_length]; exact Nat.le_of_eq h2, fun k v hv => ?_, fun hf => by cases hf⟩, fun H hi hg => .inr ⟨i, 0, false, false, [], ints zs, rfl, hi, hg, ?_⟩⟩
    · exact VRel.slice (o := 0) hj h1 (by omega) (fun hf => by cases hf)
    · have := hcell (cap - 1) (by omega)
      have := (Array.getElem?_eq_some_iff.1 this).1
      show off + cap ≤ c.size
      omega
    · rw [ints_get] at hv
      cases hz : zs[k]? with
      | none => rw [hz] at hv; cases hv
      | some z =>
        rw [hz] at hv
        cases hv
        have hk : k < cap := by rw [← h2]; exact (List.getElem?_eq_some_iff.1 hz).1
        refine ⟨_, hcell k hk, ?_⟩
        have : zs.getD k 0 = z := by simp [List.getD, hz]
        rw [this]
        exact .int _ _
    · rw [List.drop_zero, ints, ← List.map_take, h3]; rfl
end Go.Ah
namespace Go.Proofs.YtcapeganlaibhaaGreatDoor.law
open Go.ChangeShapes Go.WideShapes Go.ChangeAt Go.RowKit Go.Ah
theorem own : ownKnob Tryz.prog.godebug = none := by kernel_rfl
theorem laidOut : laidOutB Tryz.prog = true := by kernel_rfl
theorem cells25 : Tryz.prog.cellsOf 25 = 6 := by kernel_rfl
theorem cells24 : Tryz.prog.cellsOf 24 = 2 := by kernel_rfl
theorem cells22 : Tryz.prog.cellsOf 22 = 1 := by kernel_rfl
theorem cells3 : Tryz.prog.cellsOf 3 = 1 := by kernel_rfl

/-- one state, read -/
theorem open_state {H : Type} {enc : TypeId × Value → H} {W : World} {n : Nat} {c0 c1 : Value} {y : DataW H × List MemPlace}
    (h : DataW.trod enc Tryz.prog W 0 (fun _ => true) true n 24 [c0, c1] = some y) : ∃ xs o, IntsAt W c0 xs ∧ c1 = .int .i64 o := by
  obtain ⟨y0, y1, m, _, _, h0, h1⟩ := trod_struct2 Tryz.underlying24 h
  have h0' : DataW.trod enc Tryz.prog W 0 (fun _ => true) true m 22 [c0] = some y0 := by simpa [cells22] using h0
  have h1' : DataW.trod enc Tryz.prog W 0 (fun _ => true) true m 3 [c1] = some y1 := by simpa [cells3] using h1
  obtain ⟨o, ho, _⟩ := DataW.trod_int Tryz.underlying3 h1'
  rcases open_ints Tryz.underlying22 Tryz.underlying3 cells3 h0' with ⟨hcs, _⟩ | ⟨a, len, cap, zs, hcs, _, hl, hm, hz, _, hcell, _⟩
  · exact ⟨[], o, .inl ⟨by simpa using hcs, rfl⟩, by simpa using ho⟩
  · simp only [if_true] at hz
    have hc0 : c0 = .slice (some a) len cap := by simpa using hcs
    by_cases h0 : cap = 0
    · subst h0
      obtain rfl : len = 0 := by omega
      exact ⟨[], o, .inr (.inl ⟨a, hc0, rfl⟩), by simpa using ho⟩
    · obtain ⟨b, off, spot⟩ := a
      have hspot : spot = none := by simpa [Addr.add] using World.cell?_spot (hcell 0 (by omega))
      subst hspot
      have hlen : (zs.take len).length = len := by simp; omega
      refine ⟨zs.take len, o, .inr (.inr ⟨b, off, cap, zs, by rw [hlen]; exact hc0, by omega, hz, by rw [hlen], by omega, fun i hi => ?_⟩), by simpa using ho⟩
      have := hcell i (by omega)
      rw [Addr.add_lit] at this
      exact this

theorem array6 {α : Type} {a : Array α} (h : a.size = 6) : ∃ x0 x1 x2 x3 x4 x5, a = #[x0, x1, x2, x3, x4, x5] := by
  obtain ⟨l⟩ := a
  match l, h with
  | [x0, x1, x2, x3, x4, x5], _ => exact ⟨x0, x1, x2, x3, x4, x5, rfl⟩

/-- the call, in any world -/
theorem walk {W : World} {c0 c2 c4 : Value} {x0 x1 x2 : List Int} {o0 o1 o2 : Int} {B0 : Nat} {k0 : Array Value} {E0 : TypeId} {fr0 : Nat × Nat} (hB0 : W.heap[B0]? = some (.cells k0 E0 fr0))
    (h0 : IntsAt W c0 x0) (h1 : IntsAt W c2 x1) (h2 : IntsAt W c4 x2) :
    Calls Tryz.prog 3 #[.agg #[c0, .int .i64 o0, c2, .int .i64 o1, c4, .int .i64 o2]] W fun e W' => e = .returned (.bool true) ∧ Below W.heap.size W W' := by
  obtain ⟨a0, l0, e0, r0, q0, s0⟩ := pack hB0 h0 0
  obtain ⟨a1, l1, e1, r1, q1, s1⟩ := pack hB0 h1 1
  obtain ⟨a2, l2, e2, r2, q2, s2⟩ := pack hB0 h2 2
  let H : AHeap := (((⟨.leaf, 0, 0⟩ : AHeap).alloc (.row false [] l0)).alloc (.row false [] l1)).alloc (.row false [] l2)
  let j : J := fun b => if b = 0 then some e0 else if b = 1 then some e1 else if b = 2 then some e2 else none
  have hg : ∀ b o, H.get b = some o → (b = 0 ∧ o = .row false [] l0) ∨ (b = 1 ∧ o = .row false [] l1) ∨ (b = 2 ∧ o = .row false [] l2) := by
    intro b o hb
    simp only [H, AHeap.get_alloc, AHeap.next_alloc] at hb
    split at hb
    · rename_i h; cases hb; exact .inr (.inr ⟨h, rfl⟩)
    · split at hb
      · rename_i h; cases hb; exact .inr (.inl ⟨h, rfl⟩)
      · split at hb
        · rename_i h; cases hb; exact .inl ⟨h, rfl⟩
        · simp [AHeap.get, Trie.get_leaf] at hb
  have hrel : Rel j H W := by
    refine ⟨Nat.zero_le _, fun g o hlt => by simp [H, AHeap.gn_alloc] at hlt, fun b hb => ?_, fun b hb => ?_, fun b o e hb he => ?_, fun b1 b2 o1 o2 e1 e2 hb1 hw => ?_, fun b1 b2 o1 hb1 hin => ?_, fun b1 b2 w1 w2 l1' l2' c1 c2 e1 e2 hb1 hin => ?_⟩
    · have hb' : 3 ≤ b := hb
      simp only [j]
      rw [if_neg (by omega), if_neg (by omega), if_neg (by omega)]
    · have hb' : 3 ≤ b := hb
      cases hh : H.get b with
      | none => rfl
      | some o => rcases hg b o hh with ⟨h, _⟩ | ⟨h, _⟩ | ⟨h, _⟩ <;> omega
    · rcases hg b o hb with ⟨rfl, rfl⟩ | ⟨rfl, rfl⟩ | ⟨rfl, rfl⟩ <;> simp only [j] at he <;> simp at he <;> subst he
      · exact q0 j
      · exact q1 j
      · exact q2 j
    · rcases hg b1 o1 hb1 with ⟨_, rfl⟩ | ⟨_, rfl⟩ | ⟨_, rfl⟩ <;> cases hw
    · rcases hg b1 o1 hb1 with ⟨_, rfl⟩ | ⟨_, rfl⟩ | ⟨_, rfl⟩ <;> cases hin
    · rcases hg b1 _ hb1 with ⟨_, h⟩ | ⟨_, h⟩ | ⟨_, h⟩ <;> cases h <;> cases hin
  have g0 : H.get 0 = some (.row false [] l0) := by simp [H, AHeap.get_alloc, AHeap.next_alloc]
  have g1 : H.get 1 = some (.row false [] l1) := by simp [H, AHeap.get_alloc, AHeap.next_alloc]
  have g2 : H.get 2 = some (.row false [] l2) := by simp [H, AHeap.get_alloc, AHeap.next_alloc]
  have hn : H.next = 3 := rfl
  have hlaw : ACalls Tryz.prog 3 [.agg [a0, I o0, a1, I o1, a2, I o2]] H fun e _ => e = .ret (.bool true) :=
    law3 (s0 H (by omega) g0) (s1 H (by omega) g1) (s2 H (by omega) g2) fun H' _ => rfl
  have hv : VRels j [.agg [a0, I o0, a1, I o1, a2, I o2]] [.agg #[c0, .int .i64 o0, c2, .int .i64 o1, c4, .int .i64 o2]] :=
    .cons (.agg (l' := [c0, .int .i64 o0, c2, .int .i64 o1, c4, .int .i64 o2]) (.cons (r0 j rfl) (.cons (.int _ _) (.cons (r1 j rfl) (.cons (.int _ _) (.cons (r2 j rfl) (.cons (.int _ _) .nil))))))) .nil
  refine (hlaw j W _ hrel hv).mono ?_
  rintro e W' ⟨o, H', j', rfl, k1, k2, k3⟩
  have hnw : ∀ B, ¬ WBlock j H B := by
    rintro B ⟨b, o, e, hb, hw, _⟩
    rcases hg b o hb with ⟨_, rfl⟩ | ⟨_, rfl⟩ | ⟨_, rfl⟩ <;> cases hw
  refine ⟨?_, k3.os, k3.tape, k3.output, k3.size, fun k hk => k3.frame k hk (hnw k)⟩
  cases k2 with
  | ret hv => cases hv; rfl

theorem zeroBlock : ∃ zero t, (((begin Tryz.prog (fun _ _ => 0) default).world.heap[0]?).bind Obj.row?) = some (zero, t) := by
  have h : ((((begin Tryz.prog (fun _ _ => 0) default).world.heap[0]?).bind Obj.row?)).isSome = true := by kernel_rfl
  obtain ⟨⟨a, b⟩, h⟩ := Option.isSome_iff_exists.1 h
  exact ⟨a, b, h⟩

set_option maxRecDepth 100000 in
/-- what the walk gives, for every argument -/
theorem contract (H : Type) (enc : TypeId × Value → H) (W : World) (base : Nat) (args : Array Value) (ds gs : List (DataW H)) (before : List MemPlace)
    (hval : ∀ (j : Nat) t v, Tryz.f3.params[j]? = some t → args[j]? = some v → Value.okWide Tryz.prog W .any base t v)
    (hW : DataW.Whole enc Tryz.prog Tryz.f3.params.toList Rows.verifyJoinsSpec.vars false W args.toList ds gs before) (hsh : W.ShapedOpen Tryz.prog) :
    Calls Tryz.prog 3 args W fun e W' => ∃ v, e = .returned v ∧ Rows.verifyJoinsSpec.post enc Tryz.prog Tryz.f3 false true false false W args v W' := by
  have hW' := hW
  obtain ⟨p, q, hA0, hV, rfl, hfz, hnd⟩ := hW
  have hA : DataW.TrodAll enc Tryz.prog W 0 (fun _ => true) true Tryz.f3.params.toList args.toList ds p := hA0
  rw [Tryz.params3] at hA hval
  obtain ⟨v0, d0, rfl, rfl, h0⟩ := trodAll_one hA
  obtain ⟨rfl, rfl⟩ := trodVars_none hV
  simp only [List.append_nil] at hW'
  have h0k := h0
  have hlt : ∀ x ∈ p, x.block < W.heap.size := fun x hx => by simpa using hW'.lt x hx
  have hv0 := hval 0 25 v0 rfl rfl
  obtain ⟨cs, rfl, hsz⟩ : ∃ cs, v0 = .agg cs ∧ cs.size = 6 := by
    unfold Value.okWide at hv0
    rw [Tryz.underlying25] at hv0
    obtain ⟨cs, h1, h2, _⟩ := hv0
    exact ⟨cs, h1, h2.trans cells25⟩
  obtain ⟨c0, c1, c2, c3, c4, c5, rfl⟩ := array6 hsz
  obtain ⟨fuel, hf⟩ := h0
  obtain ⟨xs, m, _, _, _, hxl, hx⟩ := DataW.trod_array Tryz.underlying25 hf
  have e0 := hx 0 (by omega)
  have e1 := hx 1 (by omega)
  have e2 := hx 2 (by omega)
  rw [cells24] at e0 e1 e2
  have gx : ∀ i, i < 3 → ∃ y, xs[i]? = some y := fun i hi => ⟨_, List.getElem?_eq_getElem (by omega)⟩
  obtain ⟨y0, hy0⟩ := gx 0 (by omega)
  obtain ⟨y1, hy1⟩ := gx 1 (by omega)
  obtain ⟨y2, hy2⟩ := gx 2 (by omega)
  rw [hy0] at e0; rw [hy1] at e1; rw [hy2] at e2
  obtain ⟨x0, o0, s0, rfl⟩ := open_state (c0 := c0) (c1 := c1) (by simpa [Value.cells] using e0)
  obtain ⟨x1, o1, s1, rfl⟩ := open_state (c0 := c2) (c1 := c3) (by simpa [Value.cells] using e1)
  obtain ⟨x2, o2, s2, rfl⟩ := open_state (c0 := c4) (c1 := c5) (by simpa [Value.cells] using e2)
  obtain ⟨zero, t, hz⟩ := zeroBlock
  obtain ⟨k0, hB0, _⟩ := hsh.1 0 zero t (of_decide_eq_true (by kernel_rfl)) hz
  refine (walk hB0 s0 s1 s2).mono fun e W' ⟨he, hb⟩ => ?_
  subst he
  have hargs : DataW.Trod enc Tryz.prog W' 0 (fun b => decide (b < W.heap.size)) true 25 _ d0 p :=
    Below.trod laidOut (by kernel_rfl) (of_decide_eq_true (by kernel_rfl)) h0k hb hlt
  exact ⟨_, rfl, ⟨_, _, _, [], _, [], hW', trodAll_mk1 (shut_bool Tryz.underlying4 _), trodAll_mk1 hargs, rfl, hb.frame _, fun h => by cases h⟩⟩

end Go.Proofs.YtcapeganlaibhaaGreatDoor.law
