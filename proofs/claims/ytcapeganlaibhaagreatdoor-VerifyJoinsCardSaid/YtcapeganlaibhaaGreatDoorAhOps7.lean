/- append, make, copy. -/
import Derived.Test.YtcapeganlaibhaaGreatDoorAhOps6
import Derived.Deep.Upon
set_option linter.unusedVariables false
set_option linter.unusedSimpArgs false
namespace Go.Ah

variable {P : Program} {j : J} {H : AHeap} {w : World}

def amakeSlice (P : Program) (H : AHeap) (t : TypeId) (l c : AV) : Option (AV × AHeap) :=
  match l, c with
  | .int _ (.ofNat len), .int _ (.ofNat cap) => match P.underlying t with
    | some (.slice e) => match P.info? e with
      | some ie => match ie.zero with
        | some z => match (absv 8 z).cells? with
          | some zl => match Nat.ble len cap && (Nat.ble (ie.bytes * cap) 140737488355328 && (Nat.ble cap 9223372036854775807 && Nat.beq zl.length ie.size)) with
            | true => some (.slice (some (H.next, 0)) len ie.size (Nat.beq len cap), (anew H (aZeros zl cap)).2)
            | false => none
          | none => none
        | none => none
      | none => none
    | _ => none
  | _, _ => none

theorem wrap_nat {n : Nat} (h : n ≤ 9223372036854775807) : IntKind.i64.wrap (n : Int) = n := by
  simp only [IntKind.wrap, IntKind.signed, IntKind.bits]
  have : (n : Int) % 2 ^ 64 = n := by omega
  simp only [this]
  rw [if_neg]
  simp only [Bool.true_and, ge_iff_le, decide_eq_true_eq]
  omega

theorem amakeSlice_sound (h : Rel j H w) {t : TypeId} {l c : AV} {l' c' : Value} {r : AV × AHeap} (hl : VRel j l l') (hc : VRel j c c') (he : amakeSlice P H t l c = some r) :
    ∃ x' w' j', (Instr.makeSlice t l' c').run P w = .ok x' w' ∧ VRel j' r.1 x' ∧ Rel j' r.2 w' ∧ Ext j H w j' r.2 w' ∧ ∃ sh o, r = (sh.mk H.next, H.alloc o) ∧ Made j w sh o x' w' := by
  unfold amakeSlice at he
  split at he
  · rename_i k len k2 cap
    cases hl; cases hc
    split at he
    · rename_i e hu
      split at he
      · rename_i ie hie
        split at he
        · rename_i z hz
          split at he
          · rename_i zl hzl
            have hzr := (VRel.absv j 8 z).cells hzl
            split at he
            · rename_i hb
              simp only [Bool.and_eq_true] at hb
              obtain ⟨b1, b2, b3, b4⟩ := hb
              have b1 := Nat.le_of_ble_eq_true b1
              have b2 := Nat.le_of_ble_eq_true b2
              have b3 := Nat.le_of_ble_eq_true b3
              have b4 := Nat.eq_of_beq_eq_true b4
              cases he
              have hzlen := hzr.length
              simp only [Array.length_toList] at hzlen
              have hw1 : IntKind.i64.wrap (Int.ofNat len) = (len : Int) := wrap_nat (by omega)
              have hw2 : IntKind.i64.wrap (Int.ofNat cap) = (cap : Int) := wrap_nat b3
              have hzz : VRels j (aZeros zl cap) ((Array.range (cap * ie.size)).map ((if cap * ie.size = 0 then #[] else z.cells)[· % (if cap * ie.size = 0 then #[] else z.cells).size]!)).toList := by
                by_cases h0 : cap * ie.size = 0
                · rw [h0]
                  have hl0 : (aZeros zl cap).length = 0 := by rw [aZeros_length, b4]; exact h0
                  rw [List.length_eq_zero_iff.1 hl0]
                  simp; exact .nil
                · rw [if_neg h0]; exact aZeros_rel hzr cap _ (by rw [b4])
              obtain ⟨a, w', j', g1, g2, g3, g4, g5⟩ := anewSlice_sound (P := P) h e hzz (len := len) (cap := cap) (sz := ie.size) (f := Nat.beq len cap) b1 (by simp) (fun hh => (Nat.eq_of_beq_eq_true hh).symm)
              refine ⟨.slice (some a) len cap, w', j', ?_, g2, g3, g4, .slice len ie.size (Nat.beq len cap), _, rfl, g5⟩
              have hbytes : ((ie.bytes : Int) * (cap : Int)) ≤ 140737488355328 := by
                have : ((ie.bytes * cap : Nat) : Int) ≤ 140737488355328 := by omega
                simpa using this
              unfold Instr.makeSlice
              simp only [Sem.run_bind, run_underlying hu, Result.andThen_ok, asInt, asIntOf, Sem.run_pure, run_typeInfoA hie]
              rw [hw1, hw2]
              rw [if_neg (by simp; omega)]
              simp only [Sem.run_bind, run_askRoom, Result.andThen_ok, run_sizeOfA (szT_of hie), Int.toNat_natCast]
              by_cases h0 : cap * ie.size = 0
              · rw [if_pos h0] at g1
                rw [if_pos h0]
                simp only [Sem.run_bind, Sem.run_pure, Result.andThen_ok, Int.toNat_natCast, g1]
              · rw [if_neg h0] at g1
                rw [if_neg h0]
                simp only [Sem.run_bind, run_zeroA hie hz, Sem.run_pure, Result.andThen_ok, Int.toNat_natCast, g1]
            · cases he
          · cases he
        · cases he
      · cases he
    · cases he
  · cases he

/-! ## append -/
/-- what is appended: how many, and their cells -/
def asrc (P : Program) (H : AHeap) (size : Nat) (tx : TypeId) (x : AV) : Option (Nat × List AV) :=
  match x with
  | .slice none 0 _ _ => match P.underlying tx with
    | some (.slice _) => some (0, [])
    | _ => none
  | .slice (some (b, o)) k sz _ => match P.underlying tx with
    | some (.slice _) => match Nat.beq sz size with
      | true => match k with
        | 0 => some (0, [])
        | k' + 1 => match H.get b with
          | some (.row _ _ cells) => match Nat.beq ((cells.drop o).take ((k' + 1) * sz)).length ((k' + 1) * sz) && allCells ((cells.drop o).take ((k' + 1) * sz)) with
            | true => some (k' + 1, (cells.drop o).take ((k' + 1) * sz))
            | false => none
          | _ => none
      | false => none
    | _ => none
  | .str s => match P.underlying tx with
    | some .string => match size with
      | 1 => some (s.length, s.map fun c => .int .u8 c.toNat)
      | _ => none
    | _ => none
  | _ => none

theorem World.cell?_drew' (w : World) (a : Addr) : w.drew.cell? a = w.cell? a := rfl

theorem asrc_sound (h : Rel j H w) {size n : Nat} {tx : TypeId} {x : AV} {x' : Value} {news : List AV} (hx : VRel j x x') (he : asrc P H size tx x = some (n, news)) :
    ∃ news', VRels j news news' ∧ Src P size tx x' n news' w := by
  unfold asrc at he
  split at he
  · split at he
    · rename_i e hu
      cases he; cases hx
      exact ⟨[], .nil, Src.ofNil w hu 0⟩
    · cases he
  · rename_i b o k sz f0
    split at he
    · rename_i e hu
      split at he
      · rename_i hs
        have hs := Nat.eq_of_beq_eq_true hs; subst hs
        split at he
        · cases he
          cases hx with
          | sliceEmpty hj => exact ⟨[], .nil, Src.ofSlice w hu _ 0 0 [] (by simp) (by simp) (by simp)⟩
          | slice hj hl hc hf => exact ⟨[], .nil, Src.ofSlice w hu _ 0 _ [] (by simp) (by simp) (by simp)⟩
        · rename_i k'
          split at he
          · rename_i wr olds cells hb
            split at he
            · rename_i hbb
              simp only [Bool.and_eq_true] at hbb
              have h1 := Nat.eq_of_beq_eq_true hbb.1
              cases he
              cases hx with
              | slice hj hl hc hf =>
                rename_i B base nn cap
                obtain ⟨l', g1, g2, g3⟩ := h.cellsAt hb hj o ((k' + 1) * sz) h1
                exact ⟨l', g2, Src.ofSlice w hu _ (k' + 1) cap l' g1 g3 (g2.oneCells hbb.2)⟩
            · cases he
          · cases he
      · cases he
    · cases he
  · rename_i s
    split at he
    · rename_i hu
      split at he
      · cases he; cases hx
        refine ⟨byteCells ⟨s.toArray⟩, ?_, ?_⟩
        · simp only [byteCells]
          exact VRels.map s _ _ (fun c _ => .int _ _)
        · have := Src.ofString (P := P) w hu ⟨s.toArray⟩
          simpa [ByteArray.size] using this
      · cases he
    · cases he
  · cases he

def zeroFits (z : Value) (n : Nat) : Bool :=
  match (absv 8 z).cells? with
  | some zl => Nat.beq zl.length n
  | none => false
theorem zeroFits_size {z : Value} {n : Nat} (h : zeroFits z n = true) : z.cells.size = n := by
  unfold zeroFits at h
  split at h
  · rename_i zl hzl
    have := ((VRel.absv (fun _ => none) 8 z).cells hzl).length
    simp only [Array.length_toList] at this
    rw [← this]; exact Nat.eq_of_beq_eq_true h
  · cases h

def aappFin (H : AHeap) (b o n sz len : Nat) (olds : List Nat) (cells news : List AV) : AV × AHeap :=
  (.slice (some (H.next, 0)) (len + n) sz false, (H.put b (.row false [] cells)).alloc (.row true (b :: olds) (cells.drop o ++ news)))

def aappend (P : Program) (H : AHeap) (t tx : TypeId) (s x : AV) : Option (AV × AHeap) :=
  match P.underlying t with
  | some (.slice e) => match P.info? e with
    | some ie => match ie.zero with
      | some z => match zeroFits z ie.size with
       | false => none
       | true => match asrc P H ie.size tx x with
        | some (0, []) => match s with
          | .slice none 0 _ _ => some (s, H)
          | .slice (some _) _ _ _ => some (s, H)
          | _ => none
        | some (n, news) => match s with
          | .slice none 0 _ _ => match Nat.ble ((n + n / 4 + 192) * ie.bytes) 281474976710656 && Nat.ble n 9223372036854775807 with
            | true => some (.slice (some (H.next, 0)) n ie.size false, (anew H news).2)
            | false => none
          | .slice (some (b, o)) len sz true => match Nat.beq sz ie.size && (Nat.ble ((len + n + (len + n) / 4 + 192) * ie.bytes) 281474976710656 && Nat.ble (len + n) 9223372036854775807) with
            | true => match len with
              | 0 => some (.slice (some (H.next, 0)) n ie.size false, (anew H news).2)
              | k + 1 => match H.get b with
                | some (.row _ _ cells) => match Nat.beq ((cells.drop o).take ((k + 1) * sz)).length ((k + 1) * sz) with
                  | true => some (.slice (some (H.next, 0)) (k + 1 + n) ie.size false, (anew H ((cells.drop o).take ((k + 1) * sz) ++ news)).2)
                  | false => none
                | _ => none
            | false => none
          | .slice (some (b, o)) len sz false => match Nat.beq sz ie.size && (Nat.ble ((len + n + (len + n) / 4 + 192) * ie.bytes) 281474976710656 && Nat.ble (len + n) 9223372036854775807) with
            | true => match H.get b with
              | some (.row true olds cells) => match Nat.beq (o + len * sz) cells.length with
                | true => some (aappFin H b o n sz len olds cells news)
                | false => match Nat.ble (o + len * sz) cells.length with
                  | true => some (aappFin ((H.kill olds).put b (.row true [] (cells.take (o + len * sz)))) b o n sz len [] (cells.take (o + len * sz)) news)
                  | false => none
              | _ => none
            | false => none
          | _ => none
        | none => none
      | none => none
    | none => none
  | _ => none

theorem growRow (h : Rel j H w) {t tx ty e : TypeId} {ie : TypeInfo} {z : Value} (hu : P.underlying t = some (.slice e)) (hie : P.info? e = some ie) (hz : ie.zero = some z) (hzs : z.cells.size = ie.size) {base : Option Addr} {n len : Nat} {news olds : List AV} {news' olds' : List Value}
    (hr : VRels j news news') (ho : VRels j olds olds') {x' : Value} (hs : Src P ie.size tx x' n news' w) {cap : Nat} (hold : (Builtin.firstCells ie.size len (.slice base len cap)).run P w.drew = .ok olds'.toArray w.drew) (hol : olds'.length = len * ie.size)
    (hg : cap < len + n) (hb : (len + n + (len + n) / 4 + 192) * ie.bytes ≤ 281474976710656) (h63 : len + n ≤ 9223372036854775807) (olds0 : List Nat) (ho0 : ∀ x ∈ olds0, x < H.next ∧ ∀ o2, H.get x = some o2 → o2.wr = false ∧ j x ≠ none) :
    ∃ x'' w' j', (Builtin.append_ #[t, tx] ty #[.slice base len cap, x']).run P w = .ok x'' w' ∧ VRel j' (.slice (some (H.next, 0)) (len + n) ie.size false) x'' ∧ Rel j' (H.alloc (.row true olds0 (olds ++ news))) w' ∧ Ext j H w j' (H.alloc (.row true olds0 (olds ++ news))) w' := by
  have hfit := growslice_fits_wide (need := len + n) (old := cap) (bytes := ie.bytes) hg hb
  have hrun := run_append_grow_src w t tx ty e ie z hu hie hz base len cap olds' hold x' n news' hs hg (by omega) hfit
  have hge := grownCap_ge w (len + n) cap e
  have hnl := hs.newsLen
  obtain ⟨rest, hrest⟩ : ∃ rest, Builtin.zeroCells z.cells (grownCap w (len + n) cap e - (len + n)) = rest := ⟨_, rfl⟩
  have hrs : rest.size = (grownCap w (len + n) cap e - (len + n)) * ie.size := by
    rw [← hrest]; simp [Builtin.zeroCells, hzs]
  rw [hrest] at hrun
  have hsz : ((olds' ++ news').toArray ++ rest).size = grownCap w (len + n) cap e * ie.size := by
    simp only [Array.size_append, List.size_toArray, List.length_append, hol, hnl, hrs]
    rw [← Nat.add_mul, ← Nat.add_mul]; congr 1; omega
  have hle := J.le_set (h.bound _ (Nat.le_refl _)) (w.heap.size, 0, ((olds' ++ news').toArray ++ rest).size)
  have key := h.alloc (o := .row true olds0 (olds ++ news)) (obj := .cells ((olds' ++ news').toArray ++ rest) e) (base := 0) (n := ((olds' ++ news').toArray ++ rest).size) ho0 ⟨(olds' ++ news').toArray ++ rest, e, (0, 0), by simp, by simp, by
      have h1 := hr.length; have h2 := ho.length
      simp only [List.length_append, Array.size_append, List.size_toArray]; omega, fun i v hv => by
      obtain ⟨x, hx, hxr⟩ := (ho.append hr).get hv
      refine ⟨x, ?_, hxr.mono hle⟩
      obtain ⟨hlt, _⟩ := List.getElem?_eq_some_iff.1 hx
      simp only [Nat.zero_add]
      rw [Array.getElem?_append_left (by simpa using hlt)]
      simpa using hx, fun _ i _ => by simp⟩
  refine ⟨_, w.drew.alloc (.cells ((olds' ++ news').toArray ++ rest) e), _, hrun, ?_, key.1.congr rfl, key.2.trans (Ext.congr rfl rfl rfl rfl)⟩
  refine VRel.slice (o := 0) (J.set_self _ _ _) hge ?_ (by simp)
  rw [hsz]; omega


theorem setCells_eq {B o : Nat} {E : TypeId} {fr : Nat × Nat} {c : Array Value} {vs : List Value} (hc : w.heap[B]? = some (.cells c E fr)) (hsz : o + vs.length ≤ c.size) (hfr : ∀ k, k < vs.length → ¬ (fr.1 ≤ o + k ∧ o + k < fr.2)) (h1 : ∀ v ∈ vs, v.oneCell' = true) (P : Program) :
    w.setCells B o vs = { w with heap := w.heap.setIfInBounds B (.cells (setRange c o vs) E fr) } ∧ (∀ k, k < vs.length → (w.cell? ⟨B, o + k, none⟩).isSome = true) ∧ (∀ k, k < vs.length → w.frozen? ⟨B, o + k, none⟩ = false) := by
  have g1 : ∀ k, k < vs.length → (w.cell? ⟨B, o + k, none⟩).isSome = true := fun k hk => by
    rw [get?_of_cells hc, Array.getElem?_eq_getElem (by omega)]; rfl
  have g2 : ∀ k, k < vs.length → w.frozen? ⟨B, o + k, none⟩ = false := fun k hk => by
    have h0 := hfr k hk
    simp only [World.frozen?, hc]
    obtain ⟨lo, hi⟩ := fr
    simp only at h0
    simp only [Bool.and_eq_false_iff, decide_eq_false_iff_not]
    omega
  refine ⟨?_, g1, g2⟩
  have r1 := run_storeCells_cells (P := P) B o vs 0 w (by simpa using g1) (by simpa using g2) h1
  have r2 := run_storeCellsA (P := P) B o E fr vs 0 c w hc (by omega) (by simpa using hfr) h1
  rw [r1] at r2
  simpa using r2

theorem appendRow (h : Rel j H w) {t tx ty e : TypeId} {ie : TypeInfo} {z : Value} (hu : P.underlying t = some (.slice e)) (hie : P.info? e = some ie) (hz : ie.zero = some z) (hzs : z.cells.size = ie.size) {b o n len : Nat} {olds : List Nat} {cells news : List AV} {news' : List Value} {s' x' : Value}
    {f0 : Bool} (hs' : VRel j (.slice (some (b, o)) len ie.size f0) s') (hr : VRels j news news') (hs : Src P ie.size tx x' n news' w) (hn : 0 < n) (hb : H.get b = some (.row true olds cells)) (hlen : o + len * ie.size = cells.length)
    (hbnd : (len + n + (len + n) / 4 + 192) * ie.bytes ≤ 281474976710656) (h63 : len + n ≤ 9223372036854775807) :
    ∃ x'' w' j', (Builtin.append_ #[t, tx] ty #[s', x']).run P w = .ok x'' w' ∧ VRel j' (aappFin H b o n ie.size len olds cells news).1 x'' ∧ Rel j' (aappFin H b o n ie.size len olds cells news).2 w' ∧ Ext j H w j' (aappFin H b o n ie.size len olds cells news).2 w' := by
  have hjb : ∃ e, j b = some e := by cases hs' with | sliceEmpty hj => exact ⟨_, hj⟩ | slice hj _ _ _ => exact ⟨_, hj⟩
  obtain ⟨eb, hjb⟩ := hjb
  have hbn : b < H.next := by
    rcases Nat.lt_or_ge b H.next with hlt | hge
    · exact hlt
    · rw [h.low b hge] at hb; cases hb
  -- the way that makes a new row
  have grow : ∀ (base : Option Addr) (cap : Nat) (olds' : List Value), VRels j (cells.drop o) olds' → olds'.length = len * ie.size → (Builtin.firstCells ie.size len (.slice base len cap)).run P w.drew = .ok olds'.toArray w.drew → cap < len + n →
      ∃ x'' w' j', (Builtin.append_ #[t, tx] ty #[.slice base len cap, x']).run P w = .ok x'' w' ∧ VRel j' (aappFin H b o n ie.size len olds cells news).1 x'' ∧ Rel j' (aappFin H b o n ie.size len olds cells news).2 w' ∧ Ext j H w j' (aappFin H b o n ie.size len olds cells news).2 w' := by
    intro base cap olds' g1 g2 g3 g4
    have hless : Rel j (H.put b (.row false [] cells)) w := h.less hb (by simp) (by simp) (fun _ _ h => h) (.inl rfl)
    have hsx : Src P ie.size tx x' n news' w := hs
    obtain ⟨x'', w', j', r1, r2, r3, r4⟩ := growRow (ty := ty) hless hu hie hz hzs hr g1 hsx g3 g2 g4 hbnd h63 (b :: olds) (by
      intro x hx
      simp only [List.mem_cons] at hx
      rcases hx with rfl | hx
      · refine ⟨hbn, fun o2 h2 => ?_⟩
        rw [AHeap.get_put, if_pos rfl] at h2; cases h2
        exact ⟨rfl, by rw [hjb]; simp⟩
      · obtain ⟨f1, f2⟩ := h.fixed b x _ hb hx
        refine ⟨f1, fun o2 h2 => ?_⟩
        rw [AHeap.get_put] at h2
        split at h2
        · rename_i hxb; cases h2; exact ⟨rfl, by rw [hxb, hjb]; simp⟩
        · exact f2 o2 h2)
    refine ⟨x'', w', j', r1, r2, r3, ?_⟩
    -- what changed since the beginning
    refine ⟨r4.le, Nat.le_trans (Nat.le_refl _) r4.next, r4.size, fun B hB hW => r4.frame B hB fun hh => hW ?_, fun B hB => ?_, fun x hx hj0 => ?_, r4.tape, r4.os, r4.output⟩
    · obtain ⟨k, o2, e2, q1, q2, q3, q4⟩ := hh
      rw [AHeap.get_put] at q1
      split at q1
      · cases q1; cases q2
      · exact ⟨k, o2, e2, q1, q2, q3, q4⟩
    · rcases r4.newW B hB with hh | hh
      · obtain ⟨k, o2, e2, q1, q2, q3, q4⟩ := hh
        rw [AHeap.get_put] at q1
        split at q1
        · cases q1; cases q2
        · exact .inl ⟨k, o2, e2, q1, q2, q3, q4⟩
      · exact .inr hh
    · obtain ⟨q1, q2⟩ := r4.virt x hx hj0
      refine ⟨q1, q2.trans ?_⟩
      rw [AHeap.get_put, if_neg]
      intro hh; rw [hh, hjb] at hj0; cases hj0
  cases hs' with
  | sliceEmpty hj =>
    rename_i A e0
    refine grow (some A) 0 [] ?_ (by simp) ?_ (by omega)
    · have : cells.drop o = [] := List.drop_eq_nil_of_le (by omega)
      rw [this]; exact .nil
    · simp [Builtin.firstCells, loadCells, loadCellsFrom]
  | slice hj hl hc hf =>
    rename_i B base nn cap
    rw [hj] at hjb; cases hjb
    by_cases hroom : len + n ≤ cap
    · -- there is room
      obtain ⟨c, E, fr, q1, q2, q3, q4, q5⟩ := h.objs b _ _ hb hj
      simp only at q1 q2 q3 q4 q5
      have hnl := hs.newsLen
      have hcapn : (len + n) * ie.size ≤ cap * ie.size := Nat.mul_le_mul_right _ hroom
      rw [Nat.add_mul] at hcapn
      have hfree : ∀ k, k < news'.length → ¬ (fr.1 ≤ base + o + len * ie.size + k ∧ base + o + len * ie.size + k < fr.2) := fun k hk => by
        have := q5 trivial (o + len * ie.size + k) (by omega)
        rwa [show base + (o + len * ie.size + k) = base + o + len * ie.size + k by omega] at this
      obtain ⟨s1, s2, s3⟩ := setCells_eq (o := base + o + len * ie.size) q1 (by omega) hfree hs.one P
      have hrun := run_append_room_src w t tx ty e ie hu hie B (base + o) len cap x' n news' hs hroom s2 s3
      rw [s1] at hrun
      have hB : B < w.heap.size := h.block_lt hb hj
      have hnew : ({ w with heap := w.heap.setIfInBounds B (.cells (setRange c (base + o + len * ie.size) news') E fr) } : World).heap[B]? = some (.cells (setRange c (base + o + len * ie.size) news') E fr) := by simp [hB]
      have hget : ∀ i, i < base + cells.length → (setRange c (base + o + len * ie.size) news')[i]? = c[i]? := fun i hi => by
        rw [get_setRange _ _ _ _ (by omega), if_neg (by omega)]
      have hnews := hr.length
      have key := h.share (obj := .cells (setRange c (base + o + len * ie.size) news') E fr) (vs := news) (o := o) hb hj (by omega)
        ⟨_, E, fr, hnew, by rw [size_setRange]; exact q2, q3, fun i v hv => by
          obtain ⟨x, hx, hxr⟩ := q4 i v hv
          obtain ⟨hi, _⟩ := List.getElem?_eq_some_iff.1 hv
          exact ⟨x, by rw [hget _ (by simp only; omega)]; exact hx, hxr⟩, by simp⟩
        (fun x wx lx cx bx nx hin hx hjx => by
          obtain ⟨c2, E2, fr2, p1, p2, p3, p4, p5⟩ := h.objs x _ _ hx hjx
          simp only at p1 p2 p3 p4 p5
          rw [q1] at p1; cases p1
          have hend := h.ends b x true wx olds lx cells cx (B, base, nn) (B, bx, nx) hb hin hx hj hjx rfl
          simp only at hend
          refine ⟨_, E, fr, hnew, by rw [size_setRange]; exact p2, p3, fun i v hv => ?_, p5⟩
          obtain ⟨y, hy, hyr⟩ := p4 i v hv
          obtain ⟨hi, _⟩ := List.getElem?_eq_some_iff.1 hv
          exact ⟨y, by rw [hget _ (by simp only; omega)]; exact hy, hyr⟩)
        ⟨_, E, fr, hnew, by rw [size_setRange]; simp only; omega, by
          simp only [List.length_append, List.length_drop]; omega, fun i v hv => by
          have hle := J.le_set (h.bound _ (Nat.le_refl _)) (B, base + o, nn - o)
          simp only
          by_cases hi : i < (cells.drop o).length
          · rw [List.getElem?_append_left hi, List.getElem?_drop] at hv
            obtain ⟨x, hx, hxr⟩ := q4 _ v hv
            simp only [List.length_drop] at hi
            exact ⟨x, by rw [hget _ (by omega), ← hx]; congr 1; omega, hxr.mono hle⟩
          · rw [List.getElem?_append_right (by omega)] at hv
            obtain ⟨x, hx, hxr⟩ := hr.get hv
            obtain ⟨hi2, _⟩ := List.getElem?_eq_some_iff.1 hx
            simp only [List.length_drop] at hi hi2 hx
            refine ⟨x, ?_, hxr.mono hle⟩
            rw [get_setRange _ _ _ _ (by omega), if_pos (by omega), ← hx]
            congr 1; omega, fun _ i hi => by
          have := q5 trivial (o + i) (by simp only at hi; omega)
          simp only
          rwa [show base + (o + i) = base + o + i by omega] at this⟩
      refine ⟨_, _, _, hrun, ?_, key.1, key.2⟩
      refine VRel.slice (o := 0) (J.set_self _ _ _) hroom ?_ (by simp)
      omega
    · -- there is none
      have hdl : ((cells.drop o).take (len * ie.size)).length = len * ie.size := by
        simp only [List.length_take, List.length_drop]; omega
      have hdd : (cells.drop o).take (len * ie.size) = cells.drop o := List.take_of_length_le (by simp only [List.length_drop]; omega)
      obtain ⟨olds', g1, g2, g3⟩ := h.cellsAt hb hj o (len * ie.size) hdl
      rw [hdd] at g2
      refine grow _ cap olds' g2 g1 ?_ (by omega)
      exact run_firstCells_some w.drew ie.size len ⟨B, base + o, none⟩ len cap olds' g1 (by simpa using g3)

theorem aappend_sound (h : Rel j H w) {t tx ty : TypeId} {s x : AV} {s' x' : Value} {r : AV × AHeap} (hs : VRel j s s') (hx : VRel j x x') (he : aappend P H t tx s x = some r) :
    ∃ x'' w' j', (Builtin.append_ #[t, tx] ty #[s', x']).run P w = .ok x'' w' ∧ VRel j' r.1 x'' ∧ Rel j' r.2 w' ∧ Ext j H w j' r.2 w' := by
  unfold aappend at he
  split at he
  · rename_i e hu
    split at he
    · rename_i ie hie
      split at he
      · rename_i z hz
        split at he
        · cases he
        · rename_i hzf
          have hzs := zeroFits_size hzf
          split at he
          · rename_i hsrc
            obtain ⟨news', hr, hS⟩ := asrc_sound (w := w) h hx hsrc
            cases hr
            split at he
            · cases he; cases hs
              exact ⟨_, w, j, run_append_nothing w t tx ty e ie hu hie none 0 0 (Nat.le_refl _) x' hS, .sliceNil, h, Ext.refl _ _ _⟩
            · cases he
              cases hs with
              | sliceEmpty hj => exact ⟨_, w, j, run_append_nothing w t tx ty e ie hu hie _ 0 0 (Nat.le_refl _) x' hS, .sliceEmpty hj, h, Ext.refl _ _ _⟩
              | slice hj hl hc hf => exact ⟨_, w, j, run_append_nothing w t tx ty e ie hu hie _ _ _ hl x' hS, .slice hj hl hc hf, h, Ext.refl _ _ _⟩
            · cases he
          · rename_i n news hno hsrc
            obtain ⟨news', hr, hS⟩ := asrc_sound (w := w) h hx hsrc
            have hn0 : 0 < n ∨ n = 0 := by omega
            split at he
            · split at he
              · rename_i hb
                simp only [Bool.and_eq_true] at hb
                have hb1 := Nat.le_of_ble_eq_true hb.1
                have hb2 := Nat.le_of_ble_eq_true hb.2
                cases he; cases hs
                rcases hn0 with hn | hn
                · obtain ⟨x'', w', j', r1, r2, r3, r4⟩ := growRow (ty := ty) h hu hie hz hzs (olds := []) (olds' := []) (len := 0) (n := n) (cap := 0) (base := none) hr .nil hS (by simp [Builtin.firstCells]) (by simp) (by omega) (by simpa using hb1) (by simpa using hb2) [] (by simp)
                  refine ⟨x'', w', j', r1, ?_, ?_, ?_⟩
                  · simpa using r2
                  · simpa [anew] using r3
                  · simpa [anew] using r4
                · -- nothing of some length
                  subst hn
                  have := hS.newsLen
                  have h2 := hr.length
                  have : news = [] := List.length_eq_zero_iff.1 (by omega)
                  exact (hno rfl this).elim
              · cases he
            · rename_i b o len sz
              split at he
              · rename_i hb
                simp only [Bool.and_eq_true] at hb
                have hb0 := Nat.eq_of_beq_eq_true hb.1
                have hb1 := Nat.le_of_ble_eq_true hb.2.1
                have hb2 := Nat.le_of_ble_eq_true hb.2.2
                subst hb0
                have hnl := hS.newsLen
                have h2 := hr.length
                have hn : 0 < n := by
                  rcases hn0 with hn | hn
                  · exact hn
                  · subst hn
                    exact (hno rfl (List.length_eq_zero_iff.1 (by omega))).elim
                split at he
                · cases he
                  have grow : ∀ (base : Option Addr), ∃ x'' w' j', (Builtin.append_ #[t, tx] ty #[.slice base 0 0, x']).run P w = .ok x'' w' ∧ VRel j' (.slice (some (H.next, 0)) n ie.size false) x'' ∧ Rel j' (anew H news).2 w' ∧ Ext j H w j' (anew H news).2 w' := by
                    intro base
                    obtain ⟨x'', w', j', r1, r2, r3, r4⟩ := growRow (ty := ty) h hu hie hz hzs (olds := []) (olds' := []) (len := 0) (n := n) (cap := 0) (base := base) hr .nil hS (by cases base <;> simp [Builtin.firstCells, loadCells, loadCellsFrom]) (by simp) (by omega) (by simpa using hb1) (by simpa using hb2) [] (by simp)
                    exact ⟨x'', w', j', r1, by simpa using r2, by simpa [anew] using r3, by simpa [anew] using r4⟩
                  cases hs with
                  | sliceEmpty hj => exact grow _
                  | slice hj hl hc hf => have := hf rfl; subst this; exact grow _
                · rename_i k
                  split at he
                  · rename_i wr olds cells hget
                    split at he
                    · rename_i hlen
                      have hlen := Nat.eq_of_beq_eq_true hlen
                      cases he
                      cases hs with
                      | slice hj hl hc hf =>
                        rename_i B base nn cap
                        have := hf rfl; subst this
                        obtain ⟨olds', g1, g2, g3⟩ := h.cellsAt hget hj o ((k + 1) * ie.size) hlen
                        obtain ⟨x'', w', j', r1, r2, r3, r4⟩ := growRow (ty := ty) h hu hie hz hzs (olds' := olds') (len := k + 1) (n := n) (cap := k + 1) (base := some ⟨B, base + o, none⟩) hr g2 hS (run_firstCells_some w.drew ie.size (k + 1) ⟨B, base + o, none⟩ (k + 1) (k + 1) olds' g1 (by simpa using g3)) g1 (by omega) hb1 hb2 [] (by simp)
                        exact ⟨x'', w', j', r1, r2, r3, r4⟩
                    · cases he
                  · cases he
              · cases he
            · rename_i b o len sz
              split at he
              · rename_i hb
                simp only [Bool.and_eq_true] at hb
                have hb0 := Nat.eq_of_beq_eq_true hb.1
                have hb1 := Nat.le_of_ble_eq_true hb.2.1
                have hb2 := Nat.le_of_ble_eq_true hb.2.2
                subst hb0
                rcases hn0 with hn | hn
                · split at he
                  · rename_i olds cells hget
                    split at he
                    · rename_i hl
                      have hl := Nat.eq_of_beq_eq_true hl
                      cases he
                      exact appendRow h hu hie hz hzs hs hr hS hn hget hl hb1 hb2
                    · split at he
                      · rename_i hl
                        have hl := Nat.le_of_ble_eq_true hl
                        cases he
                        have hjb : ∃ e, j b = some e := by cases hs with | sliceEmpty hj => exact ⟨_, hj⟩ | slice hj _ _ _ => exact ⟨_, hj⟩
                        obtain ⟨eb, hjb⟩ := hjb
                        have hbo : b ∉ olds := fun hin => by
                          have := ((h.fixed b b _ hget hin).2 _ hget).1
                          cases this
                        have hk : Rel j (H.kill olds) w := h.kill olds
                        have hkg : (H.kill olds).get b = some (.row true olds cells) := by rw [AHeap.get_kill, if_neg hbo]; exact hget
                        -- the row without its older ones, and shorter
                        have hcut : Rel j ((H.kill olds).put b (.row true [] (cells.take (o + len * ie.size)))) w := by
                          refine hk.less hkg (fun _ => ⟨rfl, fun x hx => .inr ?_⟩) (by simp) (fun i v hv => ?_) (.inr ⟨rfl, by simp; omega⟩)
                          · rw [AHeap.get_kill, if_pos hx]
                          · rw [List.getElem?_take] at hv
                            split at hv
                            · exact hv
                            · cases hv
                        obtain ⟨x'', w', j', r1, r2, r3, r4⟩ := appendRow (ty := ty) hcut hu hie hz hzs hs hr hS hn (by rw [AHeap.get_put, if_pos rfl]) (by simp; omega) hb1 hb2
                        refine ⟨x'', w', j', r1, r2, r3, ?_⟩
                        refine ⟨r4.le, Nat.le_trans (by simp [AHeap.next_put, AHeap.next_kill]) r4.next, r4.size, fun B hB hW => r4.frame B hB fun hh => hW ?_, fun B hB => ?_, fun x hx hj0 => ?_, r4.tape, r4.os, r4.output⟩
                        · obtain ⟨k, o2, e2, q1, q2, q3, q4⟩ := hh
                          rw [AHeap.get_put] at q1
                          split at q1
                          · rename_i hkb; subst hkb; exact ⟨k, _, e2, hget, rfl, q3, q4⟩
                          · rw [AHeap.get_kill] at q1
                            split at q1
                            · cases q1
                            · exact ⟨k, o2, e2, q1, q2, q3, q4⟩
                        · rcases r4.newW B hB with hh | hh
                          · obtain ⟨k, o2, e2, q1, q2, q3, q4⟩ := hh
                            rw [AHeap.get_put] at q1
                            split at q1
                            · rename_i hkb; subst hkb; exact .inl ⟨k, _, e2, hget, rfl, q3, q4⟩
                            · rw [AHeap.get_kill] at q1
                              split at q1
                              · cases q1
                              · exact .inl ⟨k, o2, e2, q1, q2, q3, q4⟩
                          · exact .inr hh
                        · obtain ⟨q1, q2⟩ := r4.virt x (by simpa [AHeap.next_put, AHeap.next_kill] using hx) hj0
                          refine ⟨q1, q2.trans ?_⟩
                          rw [AHeap.get_put, if_neg (by intro hh; rw [hh, hjb] at hj0; cases hj0), AHeap.get_kill]
                          split
                          · rename_i hin
                            cases hgx : H.get x with
                            | none => rfl
                            | some o2 => exact absurd hj0 ((h.fixed b x _ hget hin).2 o2 hgx).2
                          · rfl
                      · cases he
                  · cases he
                · subst hn
                  have := hS.newsLen
                  have h2 := hr.length
                  have : news = [] := List.length_eq_zero_iff.1 (by omega)
                  exact (hno rfl this).elim
              · cases he
            · cases he
          · cases he
      · cases he
    · cases he
  · cases he

end Go.Ah
