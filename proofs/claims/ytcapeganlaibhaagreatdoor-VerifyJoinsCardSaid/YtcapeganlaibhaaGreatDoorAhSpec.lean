/- Calls in any heap: what a walk asks of them. -/
import Derived.Test.YtcapeganlaibhaaGreatDoorAhFun
set_option linter.unusedVariables false
set_option linter.unusedSimpArgs false
namespace Go.Ah

variable {P : Program} {j : J} {H : AHeap} {w : World}

/-- calls, loops and deferred calls as what they mean -/
def sem (P : Program) : RecG Prop := ⟨ACalls P, ALoop P, ACallsD P⟩
theorem sem_ok (P : Program) : RecOk P (sem P) := ⟨fun _ _ _ _ h => h, fun _ _ _ _ h => h, fun _ _ _ _ _ h => h⟩

/-- the heap has grown, and what was there is as it was -/
structure HLe (H H' : AHeap) : Prop where
  gn : H'.gn = H.gn
  next : H.next ≤ H'.next
  get : ∀ b, b < H.next → H'.get b = H.get b
theorem HLe.refl (H : AHeap) : HLe H H := ⟨rfl, Nat.le_refl _, fun _ _ => rfl⟩
theorem HLe.trans {H1 H2 H3 : AHeap} (a : HLe H1 H2) (b : HLe H2 H3) : HLe H1 H3 :=
  ⟨b.gn.trans a.gn, Nat.le_trans a.next b.next, fun x hx => (b.get x (Nat.lt_of_lt_of_le hx a.next)).trans (a.get x hx)⟩
theorem HLe.alloc (H : AHeap) (o : AObj) : HLe H (H.alloc o) :=
  ⟨rfl, by rw [AHeap.next_alloc]; omega, fun b hb => by rw [AHeap.get_alloc, if_neg (by omega)]⟩
theorem HLe.put {H1 H : AHeap} (h : HLe H1 H) {b : Nat} (hb : H1.next ≤ b) (o : AObj) : HLe H1 (H.put b o) :=
  ⟨h.gn, h.next, fun x hx => by rw [AHeap.get_put, if_neg (by omega)]; exact h.get x hx⟩

/-- a call that is closed: what it does in a heap of nothing, it does in any -/
theorem ACalls.closed {f : FuncId} {b : Bool} {gn : Nat} (h : ACalls P f [] ⟨.leaf, gn, gn⟩ fun e _ => e = .ret (.bool b)) {Q : AEnd → AHeap → Prop} (hq : Q (.ret (.bool b)) H) : ACalls P f [] H Q := by
  intro j w args' hrel hargs
  cases hargs
  have h0 : Rel (fun _ => none) ⟨.leaf, gn, gn⟩ w := by
    refine ⟨Nat.le_refl _, fun g o _ hg => ?_, fun _ _ => rfl, fun _ _ => rfl, fun b o e hb he => ?_, fun b1 b2 o1 o2 e1 e2 h1 => ?_, fun b1 b2 o1 h1 => ?_, fun b1 b2 w1 w2 l1 l2 c1 c2 e1 e2 h1 => ?_⟩
    · simp [AHeap.get, Trie.get_leaf] at hg
    · cases he
    · simp [AHeap.get, Trie.get_leaf] at h1
    · simp [AHeap.get, Trie.get_leaf] at h1
    · simp [AHeap.get, Trie.get_leaf] at h1
  refine (h _ w [] h0 .nil).mono ?_
  rintro e w' ⟨o, H', j', rfl, r1, r2, r3⟩
  have hfr : ∀ B, B < w.heap.size → w'.heap[B]? = w.heap[B]? := fun B hB => r3.frame B hB (by
    rintro ⟨b, o, e, h1, _⟩
    simp [AHeap.get, Trie.get_leaf] at h1)
  have hrel' : Rel j H w' := by
    refine ⟨hrel.gnn, hrel.glob, hrel.bound, hrel.low, fun b o e hb he => ?_, hrel.apart, hrel.fixed, hrel.ends⟩
    exact (hrel.objs b o e hb he).keep (J.le_refl _) (hfr _ (hrel.block_lt hb he))
  refine ⟨_, H, j, hq, hrel', ?_, J.le_refl _, Nat.le_refl _, r3.size, fun B hB _ => hfr B hB, fun B hB => .inl hB, fun b _ hb => ⟨hb, rfl⟩, r3.tape, r3.os, r3.output⟩
  cases r2 with
  | ret hv => cases hv; exact .ret (.bool _)

def ints (l : List Int) : List AV := l.map (.int .i64)
/-- a slice of ints, and what it holds -/
def Sl (H : AHeap) (v : AV) (xs : List Int) : Prop :=
  (v = .slice none 0 0 true ∧ xs = []) ∨ ∃ b o f w olds cells, v = .slice (some (b, o)) xs.length 1 f ∧ b < H.next ∧ H.get b = some (.row w olds cells) ∧ (cells.drop o).take xs.length = ints xs

theorem Sl.mono {H' : AHeap} (hle : HLe H H') {v : AV} {xs : List Int} (h : Sl H v xs) : Sl H' v xs := by
  rcases h with h | ⟨b, o, f, w, olds, cells, h1, h2, h3, h4⟩
  · exact .inl h
  · exact .inr ⟨b, o, f, w, olds, cells, h1, Nat.lt_of_lt_of_le h2 hle.next, by rw [hle.get b h2]; exact h3, h4⟩
/-- one that has just been made -/
def NewSl (H H' : AHeap) (v : AV) (xs : List Int) : Prop :=
  (v = .slice none 0 0 true ∧ xs = []) ∨ ∃ b f, v = .slice (some (b, 0)) xs.length 1 f ∧ H.next ≤ b ∧ b < H'.next ∧ H'.get b = some (.row true [] (ints xs))

theorem ints_length (l : List Int) : (ints l).length = l.length := by simp [ints]
theorem NewSl.sl {H' : AHeap} {v : AV} {xs : List Int} (h : NewSl H H' v xs) : Sl H' v xs := by
  rcases h with h | ⟨b, f, h1, h2, h3, h4⟩
  · exact .inl h
  · exact .inr ⟨b, 0, f, true, [], ints xs, h1, h3, h4, by rw [List.drop_zero, ← ints_length, List.take_length]⟩

/-! ## steps -/
section
variable {call : CallK} {n : Nat} {ops : Array Oper} {K : Kont} {o : Oper} {rest : List Oper} {T : Trie AV} {D : List ADef} {s : St}

theorem s_nil (h : K .normal s) : evOps botP P call n ops K [] s := h
theorem s_val {d : Nat} {v : AV} {H' : AHeap} (hg : aguard ops T o = some true) (hd : o.dst = some d) (hn : Nat.blt d n = true) (hx : aexec P H T o.op = .val v H')
    (h : evOps botP P call n ops K rest ⟨T.put d (some v), D, H'⟩) : evOps botP P call n ops K (o :: rest) ⟨T, D, H⟩ := by
  simp only [evOps, hg, hx, tput, hd, hn]; exact h
theorem s_skip {H' : AHeap} (hg : aguard ops T o = some true) (hd : o.dst = none) (hx : aexec P H T o.op = .skip H')
    (h : evOps botP P call n ops K rest ⟨T, D, H'⟩) : evOps botP P call n ops K (o :: rest) ⟨T, D, H⟩ := by
  simp only [evOps, hg, hx, tput, hd]; exact h
theorem s_pass {d : Nat} (hg : aguard ops T o = some false) (hd : o.dst = some d) (hn : Nat.blt d n = true)
    (h : evOps botP P call n ops K rest ⟨T.put d (some undefA), D, H⟩) : evOps botP P call n ops K (o :: rest) ⟨T, D, H⟩ := by
  simp only [evOps, hg, tput, hd, hn]; exact h
theorem s_call {d f : Nat} {args : List AV} (hg : aguard ops T o = some true) (hd : o.dst = some d) (hn : Nat.blt d n = true) (hx : aexec P H T o.op = .call f args) {Q : AEnd → AHeap → Prop} (hc : call f args H Q) (hmono : ∀ Q', (∀ e H, Q e H → Q' e H) → call f args H Q → call f args H Q')
    (h : ∀ e H', Q e H' → ∃ v, e = .ret v ∧ evOps botP P call n ops K rest ⟨T.put d (some v), D, H'⟩) : evOps botP P call n ops K (o :: rest) ⟨T, D, H⟩ := by
  simp only [evOps, hg, hx]
  refine hmono _ (fun e H' hq => ?_) hc
  obtain ⟨v, rfl, h2⟩ := h e H' hq
  simp only [tput, hd, hn]
  exact h2
end

theorem load_row {t : TypeId} {b o : Nat} {w : Bool} {olds : List Nat} {cells : List AV} {x : AV} (hb : H.get b = some (.row w olds cells)) (ht : aggT P t = some false) (hx : cells[o]? = some x) : ofV H (aload P H t (.ptr (some (b, o)))) = .val x H := by
  simp only [aload, hb, ht, hx, ofV]
theorem load_agg {t : TypeId} {b o n : Nat} {w : Bool} {olds : List Nat} {cells l : List AV} (hb : H.get b = some (.row w olds cells)) (ht : aggT P t = some true) (hs : szT P t = some n) (hx : (cells.drop o).take n = l) (hl : Nat.beq l.length n = true) : ofV H (aload P H t (.ptr (some (b, o)))) = .val (.agg l) H := by
  simp only [aload, hb, ht, hs, hx, hl, ofV]

section
variable {R : RecG Prop} {n id : Nat} {K : Kont} {s : St}
theorem c_region {l : List Oper} (h : evOps botP P R.call n l.toArray K l s) : evCode botP P R n (.region id l.toArray false) K s := by
  simpa only [evCode] using h
theorem c_draw {l : List Oper} (h : evDraw botP P R.call n l.toArray (ents 0 l (masks l [])) K s) : evCode botP P R n (.region id l.toArray true) K s := by
  simpa only [evCode] using h
theorem c_seq {x y : Code} (h : evCode botP P R n x (kthen (fun s => evCode botP P R n y K s) K) s) : evCode botP P R n (.seq x y) K s := h
theorem c_true {c : Operand} {x y : Code} (hc : aeval s.H s.T c = .bool true) (h : evCode botP P R n x K s) : evCode botP P R n (.cond c x y) K s := by
  simp only [evCode, hc]; exact h
theorem c_false {c : Operand} {x y : Code} (hc : aeval s.H s.T c = .bool false) (h : evCode botP P R n y K s) : evCode botP P R n (.cond c x y) K s := by
  simp only [evCode, hc]; exact h
theorem c_skip (h : K .normal s) : evCode botP P R n .skip K s := h
theorem c_ret (h : K .ret s) : evCode botP P R n .ret K s := h
theorem c_exit {e : Nat} (h : K (.exit e) s) : evCode botP P R n (.exit e) K s := h
theorem c_block {c : Code} (h : evCode botP P R n c (kblock id K) s) : evCode botP P R n (.block id c) K s := h
theorem c_loop {c : Code} (h : R.loop n c K s) : evCode botP P R n (.loop c) K s := h
theorem k_then {K1 : St → Prop} (h : K1 s) : kthen K1 K .normal s := h
end

theorem evFun_enter {R : RecG Prop} {f : FuncId} {fn : Func} {c : Code} {args : List AV} {Q : AEnd → AHeap → Prop} (hf : P.funcs[f]? = some fn) (hb : fn.body = some c) (hn : Nat.ble args.length fn.ntmps = true)
    (h : evCode botP P R fn.ntmps c (bodyK botP P R fn Q) ⟨tmpsFrom 0 args .leaf, [], H⟩) : evFun botP P R f args H Q := by
  simp only [evFun, hf, hb, hn]; exact h

/-! ## for simp -/
theorem x_tput {n d : Nat} {T : Trie AV} {v : AV} {k : Trie AV → Prop} (h : d < n) : tput botP n T (some d) v k = k (T.put d (some v)) := by
  have : Nat.blt d n = true := Nat.ble_eq_true_of_le h
  simp only [tput, this]
theorem x_tput0 {n : Nat} {T : Trie AV} {v : AV} {k : Trie AV → Prop} : tput botP n T none v k = k T := rfl
theorem x_tmp {T : Trie AV} {t : Nat} {v : AV} : aeval H (T.put t (some v)) (.tmp t) = v := by simp [aeval, Trie.get_put]
theorem x_tmp' {T : Trie AV} {t t' : Nat} {v : Option AV} (h : t ≠ t') : aeval H (T.put t' v) (.tmp t) = aeval H T (.tmp t) := by simp [aeval, Trie.get_put, h]
theorem x_get {T : Trie AV} {t : Nat} {v : Option AV} : (T.put t v).get t = v := by simp [Trie.get_put]
theorem x_get' {T : Trie AV} {t t' : Nat} {v : Option AV} (h : t ≠ t') : (T.put t' v).get t = T.get t := by simp [Trie.get_put, h]
theorem x_const {T : Trie AV} {v : Value} : aeval H T (.const v) = absv 8 v := rfl
theorem x_func {T : Trie AV} {f : FuncId} : aeval H T (.func f) = .func (.func f) [] [] := rfl
theorem x_abs_int {k : IntKind} {n : Int} : absv 8 (.int k n) = .int k n := rfl
theorem x_abs_bool {b : Bool} : absv 8 (.bool b) = .bool b := rfl
theorem x_abs_slice : absv 8 (.slice none 0 0) = .slice none 0 0 true := rfl
theorem x_guard {ops : Array Oper} {T : Trie AV} {o : Oper} (h : o.guard = none) : aguard ops T o = some true := by simp only [aguard, h]
theorem x_guardB {ops : Array Oper} {T : Trie AV} {o g : Oper} {i d : Nat} {want b : Bool} (h : o.guard = some (i, want)) (hg : ops[i]? = some g) (hd : g.dst = some d) (ht : T.get d = some (.bool b)) : aguard ops T o = some (b == want) := by simp only [aguard, h, hg, hd, ht]
theorem x_new {o : AObj} : (H.alloc o).get H.next = some o := by rw [AHeap.get_alloc, if_pos rfl]
theorem x_old {o : AObj} {b : Nat} (h : b < H.next) : (H.alloc o).get b = H.get b := by rw [AHeap.get_alloc, if_neg (by omega)]
theorem x_at {o : AObj} {b : Nat} (h : b = H.next) : (H.alloc o).get b = some o := by rw [AHeap.get_alloc, if_pos h]
theorem x_put {o : AObj} {b : Nat} : (H.put b o).get b = some o := by rw [AHeap.get_put, if_pos rfl]
theorem x_put' {o : AObj} {b b' : Nat} (h : b ≠ b') : (H.put b' o).get b = H.get b := by rw [AHeap.get_put, if_neg h]
theorem x_kill : H.kill [] = H := rfl
theorem x_aload {t : TypeId} {b o : Nat} : aload P H t (.ptr (some (b, o))) = match H.get b with
    | some (.row _ _ cells) => match aggT P t with
      | some true => match szT P t with
        | some n => match Nat.beq ((cells.drop o).take n).length n with
          | true => some (.agg ((cells.drop o).take n))
          | false => none
        | none => none
      | some false => cells[o]?
      | none => none
    | _ => none := rfl
theorem x_then {K1 : St → Prop} {K : Kont} {s : St} : kthen K1 K .normal s = K1 s := rfl
theorem x_then_ret {K1 : St → Prop} {K : Kont} {s : St} : kthen K1 K .ret s = K .ret s := rfl
theorem x_body_ret {R : RecG Prop} {fn : Func} {Q : AEnd → AHeap → Prop} {s : St} (hD : s.D = []) : bodyK botP P R fn Q .ret s = (match aresults P fn s.T s.H with
    | some v => Q (.ret v) s.H
    | none => False) := by
  simp only [bodyK, hD]
  unfold evLeaves
  rfl

section
variable {R : RecG Prop} {fn : Func} {Q : AEnd → AHeap → Prop} {s : St}
theorem body_ret {v : AV} (hD : s.D = []) (hr : aresults P fn s.T s.H = some v) (h : Q (.ret v) s.H) : bodyK botP P R fn Q .ret s := by
  rw [x_body_ret hD, hr]; exact h
theorem res_tmp {T : Trie AV} {t : Nat} {v : AV} (hr : fn.results = #[.tmp t]) (hv : T.get t = some v) : aresults P fn T H = some v := by
  simp only [aresults, hr, ares, hv]
theorem res_cell {T : Trie AV} {a t : Nat} {v p : AV} (hr : fn.results = #[.cell a t]) (hp : T.get a = some p) (hv : aload P H t p = some v) : aresults P fn T H = some v := by
  simp only [aresults, hr, ares, hp, hv]
theorem res_cell_tmp {T : Trie AV} {a t u : Nat} {v p x : AV} (hr : fn.results = #[.cell a t, .tmp u]) (hp : T.get a = some p) (hv : aload P H t p = some v) (hx : T.get u = some x) : aresults P fn T H = some (.tuple [v, x]) := by
  simp only [aresults, hr, ares, hp, hv, hx]
end

/-! ## regions whose order is drawn -/
section
variable {R : RecG Prop} {n id : Nat} {K : Kont} {s : St}
theorem d_start {l : List Oper} {es hs : List Ent} (hok : drawOk l (ents 0 l (masks l [])) = true) (hes : ents 0 l (masks l []) = es) (hhs : filterB heavyE es = hs)
    (h : evStages botP P R.call n l.toArray es hs K [] hs s) : evCode botP P R n (.region id l.toArray true) K s := by
  subst hes hhs
  refine c_draw ?_
  simp only [evDraw, hok]
  exact h
theorem d_start' {ops : Array Oper} {call : CallK} {es hs : List Ent} (hok : drawOk ops.toList es = true) (hhs : filterB heavyE es = hs)
    (h : evStages botP P call n ops es hs K [] hs s) : evDraw botP P call n ops es K s := by
  subst hhs
  simp only [evDraw, hok]
  exact h
theorem d_end {call : CallK} {ops : Array Oper} {es hs past G W : List Ent} {T T' : Trie AV} {D : List ADef} {H H' : AHeap}
    (hG : filterB (fun e => lightE e && Nat.beq (stage hs e.m) past.length) es = G) (hl : runLights P n ops G T H = some (T', H')) (hW : filterB (mayWait hs past) es = W) (hok : stageOk P ops W T' H' = true)
    (h : K .normal ⟨T', D, H'⟩) : evStages botP P call n ops es hs K past [] ⟨T, D, H⟩ := by
  unfold evStages
  simp only [hG, hl, hW, hok]
  exact h
theorem d_call {call : CallK} {ops : Array Oper} {es hs past rest G W : List Ent} {e : Ent} {T T' : Trie AV} {D : List ADef} {H H' : AHeap} {f d : Nat} {args : List AV}
    (hG : filterB (fun e => lightE e && Nat.beq (stage hs e.m) past.length) es = G) (hl : runLights P n ops G T H = some (T', H')) (hW : filterB (mayWait hs past) es = W) (hok : stageOk P ops W T' H' = true)
    (hg : aguard ops T' e.o = some true) (hd : e.o.dst = some d) (hn : Nat.blt d n = true) (hx : aexec P H' T' e.o.op = .call f args)
    (h : call f args H' fun x H => match x with
      | .ret v => evStages botP P call n ops es hs K (e :: past) rest ⟨T'.put d (some v), D, H⟩
      | .panic c => K (.panic c) ⟨eraseAll T' (filterB lightE es), D, H⟩) : evStages botP P call n ops es hs K past (e :: rest) ⟨T, D, H⟩ := by
  unfold evStages
  simp only [hG, hl, hW, hok, hg, hx, hd, tput, hn]
  exact h
theorem d_skip {call : CallK} {ops : Array Oper} {es hs past rest G W : List Ent} {e : Ent} {T T' : Trie AV} {D : List ADef} {H H' H'' : AHeap}
    (hG : filterB (fun e => lightE e && Nat.beq (stage hs e.m) past.length) es = G) (hl : runLights P n ops G T H = some (T', H')) (hW : filterB (mayWait hs past) es = W) (hok : stageOk P ops W T' H' = true)
    (hg : aguard ops T' e.o = some true) (hd : e.o.dst = none) (hx : aexec P H' T' e.o.op = .skip H'')
    (h : evStages botP P call n ops es hs K (e :: past) rest ⟨T', D, H''⟩) : evStages botP P call n ops es hs K past (e :: rest) ⟨T, D, H⟩ := by
  unfold evStages
  simp only [hG, hl, hW, hok, hg, hx, hd, tput]
  exact h
end
theorem q_int {k : IntKind} {a : Int} : AV.beq (.int k a) (.int k a) = true := by
  have : beqInt a a = true := by cases a <;> simp [beqInt]
  simp [AV.beq, this]
theorem q_pos (a : Option (Nat × Nat)) : beqPos a a = true := by
  cases a with
  | none => rfl
  | some p => obtain ⟨x, y⟩ := p; simp [beqPos]
theorem q_ptr {a : Option (Nat × Nat)} : AV.beq (.ptr a) (.ptr a) = true := by simp [AV.beq, q_pos]
theorem q_slice {a : Option (Nat × Nat)} {n s : Nat} {f : Bool} : AV.beq (.slice a n s f) (.slice a n s f) = true := by
  have : beqBool f f = true := by cases f <;> rfl
  simp [AV.beq, q_pos, this]
theorem q_bool {a : Bool} : AV.beq (.bool a) (.bool a) = true := by cases a <;> rfl
theorem NewSl.slice {H' : AHeap} {v : AV} {xs : List Int} (h : NewSl H H' v xs) : ∃ p n s f, v = .slice p n s f := by
  rcases h with h | ⟨b, f, h1, _⟩
  · exact ⟨_, _, _, _, h.1⟩
  · exact ⟨_, _, _, _, h1⟩
theorem Sl.slice {v : AV} {xs : List Int} (h : Sl H v xs) : ∃ p s f, v = .slice p xs.length s f := by
  rcases h with ⟨h, rfl⟩ | ⟨b, o, f, w, olds, cells, h1, _⟩
  · exact ⟨_, _, _, h⟩
  · exact ⟨_, _, _, h1⟩

theorem n_lor (a b : Nat) : Nat.lor a b = a ||| b := rfl
theorem n_pow (a b : Nat) : Nat.pow a b = a ^ b := rfl
theorem n_land (a b : Nat) : Nat.land a b = a &&& b := rfl
theorem n_shr (a b : Nat) : Nat.shiftRight a b = a >>> b := rfl
theorem n_beq (a b : Nat) : Nat.beq a b = decide (a = b) := by
  by_cases h : a = b
  · subst h; rw [Nat.beq_refl]; simp
  · cases hh : Nat.beq a b with
    | false => simp [h]
    | true => exact absurd (Nat.eq_of_beq_eq_true hh) h
theorem n_ble (a b : Nat) : Nat.ble a b = decide (a ≤ b) := by
  rcases Nat.lt_or_ge b a with h | h
  · have : Nat.ble a b = false := by
      cases hh : Nat.ble a b with
      | false => rfl
      | true => have := Nat.le_of_ble_eq_true hh; omega
    rw [this]; simp [h]
  · rw [Nat.ble_eq_true_of_le h]; simp [h]
theorem n_blt (a b : Nat) : Nat.blt a b = decide (a < b) := n_ble _ _

theorem q_agg {l m : List AV} : AV.beq (.agg l) (.agg m) = AV.beqs l m := by simp [AV.beq]
theorem q_tuple {l m : List AV} : AV.beq (.tuple l) (.tuple m) = AV.beqs l m := by simp [AV.beq]
theorem q_nil : AV.beqs [] [] = true := by simp [AV.beqs]
theorem q_cons {a b : AV} {l m : List AV} : AV.beqs (a :: l) (b :: m) = (AV.beq a b && AV.beqs l m) := by simp [AV.beqs]

/-! ## loops -/
theorem loop_ind (hmix : P.follows .mixedOrders = true) {n : Nat} {c : Code} {K : Kont} (Inv : Nat → St → Prop) (m0 : Nat) {s0 : St} (h0 : Inv m0 s0)
    (hstep : ∀ m s, Inv m s → evCode botP P (sem P) n c (kthen (fun s' => ∃ m', m' < m ∧ Inv m' s') K) s) : (sem P).loop n c K s0 := by
  show ALoop P n c K s0
  induction m0 using Nat.strongRecOn generalizing s0 with
  | _ m ih =>
    refine A_round ((evCode_sound hmix (sem_ok P) c _ _ (hstep m s0 h0)).mono fun e s' he => ?_)
    cases e with
    | normal => obtain ⟨m', h1, h2⟩ := he; exact ih m' h1 h2
    | exit id => exact he
    | goto l => exact he
    | ret => exact he
    | panic c => exact he
theorem x_block {id : Nat} {K : Kont} {s : St} : kblock id K .normal s = K .normal s := rfl
theorem x_block_ret {id : Nat} {K : Kont} {s : St} : kblock id K .ret s = K .ret s := rfl
theorem x_block_exit {id : Nat} {K : Kont} {s : St} (h : K .normal s) : kblock id K (.exit id) s := by
  simp only [kblock, Nat.beq_refl]; exact h
theorem x_block_pass {id id' : Nat} {K : Kont} {s : St} (hb : Nat.beq id' id = false) (h : K (.exit id') s) : kblock id K (.exit id') s := by
  simp only [kblock, hb]; exact h

theorem ints_get (l : List Int) (i : Nat) : (ints l)[i]? = (l[i]?).map (.int .i64) := by simp [ints]
theorem row_get {cells : List AV} {o n i : Nat} {xs : List Int} (h : (cells.drop o).take n = ints xs) (hn : xs.length = n) {x : Int} (hx : xs[i]? = some x) : cells[o + i]? = some (.int .i64 x) := by
  have hi : i < xs.length := (List.getElem?_eq_some_iff.1 hx).1
  have h1 : ((cells.drop o).take n)[i]? = cells[o + i]? := by
    rw [List.getElem?_take, if_pos (by omega), List.getElem?_drop]
  rw [← h1, h, ints_get, hx]; rfl
theorem ints_set (l : List Int) (i : Nat) (x : Int) (hi : i < l.length) : (ints l).take i ++ [.int .i64 x] ++ (ints l).drop (i + 1) = ints (l.set i x) := by
  rw [List.set_eq_take_append_cons_drop, if_pos hi]
  simp [ints]
theorem store_int {t : TypeId} (ht : szT P t = some 1) {b i : Nat} {zs : List Int} {x : Int} (hb : H.get b = some (.row true [] (ints zs))) (hi : i < zs.length) :
    astore P H t (.ptr (some (b, i))) (.int .i64 x) = some (H.put b (.row true [] (ints (zs.set i x)))) := by
  have h1 : Nat.ble (i + 1) (ints zs).length = true := Nat.ble_eq_true_of_le (by rw [ints_length]; omega)
  have h2 : Nat.beq 1 1 = true := rfl
  simp only [astore, AV.cells?, ht, List.length_cons, List.length_nil, Nat.zero_add, h2, awrite, hb, h1, allCells, AV.isCell, AHeap.kill, ints_set zs i x hi]

section
variable {R : RecG Prop} {n id : Nat} {K : Kont} {s s' : St}
theorem c_run {l : List Oper} (h : ∀ K : Kont, evOps botP P R.call n l.toArray K l s = K .normal s') (hk : K .normal s') : evCode botP P R n (.region id l.toArray false) K s :=
  c_region (by rw [h K]; exact hk)
theorem r_run {call : CallK} {ops : Array Oper} {l : List Oper} (h : ∀ K : Kont, evOps botP P call n ops K l s = K .normal s') (hk : K .normal s') : evOps botP P call n ops K l s := by
  rw [h K]; exact hk
end

theorem x_var {T : Trie AV} {t : Nat} {v : AV} (h : T.get t = some v) (H : AHeap) : aeval H T (.tmp t) = v := by simp only [aeval, h]
theorem k_exit {K1 : St → Prop} {K : Kont} {e : Nat} {s : St} (h : K (.exit e) s) : kthen K1 K (.exit e) s := h
theorem k_ret {K1 : St → Prop} {K : Kont} {s : St} (h : K .ret s) : kthen K1 K .ret s := h
theorem k_bret {id : Nat} {K : Kont} {s : St} (h : K .ret s) : kblock id K .ret s := h
theorem k_bnorm {id : Nat} {K : Kont} {s : St} (h : K .normal s) : kblock id K .normal s := h
end Go.Ah
