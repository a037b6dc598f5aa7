/- len, copy, conversions, minimum and maximum. -/
import Derived.Test.YtcapeganlaibhaaGreatDoorAhOps7
set_option linter.unusedVariables false
set_option linter.unusedSimpArgs false
namespace Go.Ah

variable {P : Program} {j : J} {H : AHeap} {w : World}

def alen (P : Program) (H : AHeap) (t : TypeId) (x : AV) : Option AV :=
  match x with
  | .str s => match P.underlying t with
    | some .string => some (.int .i64 s.length)
    | _ => none
  | .slice _ n _ _ => match P.underlying t with
    | some (.slice _) => some (.int .i64 n)
    | _ => none
  | .map none => match P.underlying t with
    | some (.map _ _) => some (.int .i64 0)
    | _ => none
  | .map (some r) => match P.underlying t with
    | some (.map _ _) => match H.get r with
      | some (.map es) => some (.int .i64 es.length)
      | _ => none
    | _ => none
  | .agg _ => match P.underlying t with
    | some (.array n _) => some (.int .i64 n)
    | _ => none
  | .ptr _ => match P.underlying t with
    | some (.pointer a) => match P.underlying a with
      | some (.array n _) => some (.int .i64 n)
      | _ => none
    | _ => none
  | _ => none

theorem EntRel.length : ∀ {es : List (AV × AV)} {l : List MapEntry}, EntRel j es l → es.length = l.length
  | [], [], _ => rfl
  | [], _ :: _, h => h.elim
  | (_, _) :: _, [], h => h.elim
  | (_, _) :: _, _ :: _, ⟨_, _, c⟩ => by simp [EntRel.length c]

theorem alen_sound (h : Rel j H w) {t ty : TypeId} {x z : AV} {x' : Value} (hx : VRel j x x') (he : alen P H t x = some z) : ∃ z', (Builtin.len_ #[t] ty #[x']).run P w = .ok z' w ∧ VRel j z z' := by
  unfold alen at he
  split at he <;> (try (cases he; done))
  · split at he
    · rename_i hu; cases he; cases hx
      have hsz : ∀ l : List UInt8, (⟨l.toArray⟩ : ByteArray).size = l.length := fun l => by simp [ByteArray.size]
      exact ⟨_, by simp only [Builtin.len_, List.getElem?_toArray, List.getElem?_cons_zero, Sem.run_bind, run_underlying hu, Result.andThen_ok, goInt, hsz, Sem.run_pure], .int .i64 _⟩
    · cases he
  · split at he
    · rename_i e hu; cases he
      cases hx with
      | sliceNil => exact ⟨_, by simp [Builtin.len_, run_underlying hu, goInt], .int _ _⟩
      | sliceEmpty _ => exact ⟨_, by simp [Builtin.len_, run_underlying hu, goInt], .int _ _⟩
      | slice _ _ _ _ => exact ⟨_, by simp [Builtin.len_, run_underlying hu, goInt], .int _ _⟩
    · cases he
  · split at he
    · rename_i hu; cases he; cases hx
      exact ⟨_, by simp [Builtin.len_, run_underlying hu, goInt], .int _ _⟩
    · cases he
  · split at he
    · rename_i hu
      split at he
      · rename_i es hg
        cases he
        cases hx with
        | map hj =>
          obtain ⟨ents, clock, l, h1, h2, h3, _⟩ := h.objs _ _ _ hg hj
          have hl := h3.length
          have hp := h2.length_eq
          simp only [Array.length_toList] at hp
          refine ⟨.int .i64 es.length, ?_, .int _ _⟩
          simp [Builtin.len_, run_underlying hu, goInt, getObj, Sem.run, h1, hl, hp]
      · cases he
    · cases he
  · split at he
    · rename_i hu; cases he; cases hx
      exact ⟨_, by simp [Builtin.len_, run_underlying hu, goInt], .int _ _⟩
    · cases he
  · split at he
    · rename_i a hu
      split at he
      · rename_i hu2; cases he
        cases hx <;> exact ⟨_, by simp [Builtin.len_, run_underlying hu, run_underlying hu2, goInt], .int _ _⟩
      · cases he
    · cases he

/-! ## copy -/
def acopy (P : Program) (H : AHeap) (t tx : TypeId) (d x : AV) : Option (AV × AHeap) :=
  match P.underlying t with
  | some (.slice e) => match szT P e with
    | some size => match d with
      | .slice none 0 _ _ => match asrc P H size tx x with
        | some _ => some (.int .i64 0, H)
        | none => none
      | .slice (some (b, o)) len sz _ => match Nat.beq sz size with
        | true => match asrc P H size tx x with
          | some (n, news) => match Nat.min n len with
            | 0 => some (.int .i64 0, H)
            | k + 1 => match awrite H b o (news.take ((k + 1) * sz)) with
              | some H' => some (.int .i64 ((k + 1 : Nat) : Int), H')
              | none => none
          | none => none
        | false => none
      | _ => none
    | none => none
  | _ => none

/-! ## conversions -/
def byteOfAV : AV → Option UInt8
  | .int .u8 n => some (UInt8.ofNat n.toNat)
  | _ => none
def bytesOfAV : List AV → Option (List UInt8)
  | [] => some []
  | v :: l => match byteOfAV v, bytesOfAV l with
    | some b, some r => some (b :: r)
    | _, _ => none

def aconv (P : Program) (H : AHeap) (src dst : TypeId) (x : AV) : Option (AV × AHeap) :=
  match x with
  | .int _ n => match P.underlying src, P.underlying dst with
    | some _, some (.int k) => some (.int k (k.wrap n), H)
    | _, _ => none
  | .str s => match P.underlying src, P.underlying dst with
    | some .string, some .string => some (x, H)
    | some .string, some (.slice e) => match P.underlying e with
      | some (.int .u8) => some (.slice (some (H.next, 0)) s.length 1 false, (anew H (s.map fun c => .int .u8 c.toNat)).2)
      | _ => none
    | _, _ => none
  | .slice none 0 _ _ => match P.underlying src, P.underlying dst with
    | some (.slice e), some .string => match P.underlying e with
      | some (.int .u8) => some (.str [], H)
      | _ => none
    | _, _ => none
  | .slice (some (b, o)) n 1 _ => match P.underlying src, P.underlying dst with
    | some (.slice e), some .string => match P.underlying e with
      | some (.int .u8) => match n with
        | 0 => some (.str [], H)
        | k + 1 => match H.get b with
          | some (.row _ _ cells) => match Nat.beq ((cells.drop o).take (k + 1)).length (k + 1) with
            | true => match bytesOfAV ((cells.drop o).take (k + 1)) with
              | some bs => some (.str bs, H)
              | none => none
            | false => none
          | _ => none
      | _ => none
    | _, _ => none
  | _ => none

theorem bytesOfAV_rel : ∀ {l : List AV} {l' : List Value} {bs : List UInt8}, VRels j l l' → bytesOfAV l = some bs → ∃ ns : List Int, l' = ns.map (Value.int .u8) ∧ bs = ns.map fun n => UInt8.ofNat n.toNat
  | [], _, bs, h, he => by cases h; simp only [bytesOfAV, Option.some.injEq] at he; subst he; exact ⟨[], rfl, rfl⟩
  | v :: l, _, bs, h, he => by
    cases h with
    | cons h t =>
      simp only [bytesOfAV] at he
      split at he
      · rename_i b r hb hr
        cases he
        obtain ⟨ns, h1, h2⟩ := bytesOfAV_rel t hr
        unfold byteOfAV at hb
        split at hb
        · rename_i n
          cases hb; cases h
          exact ⟨n :: ns, by simp [h1], by simp [h2]⟩
        · cases hb
      · cases he

theorem aconv_sound (h : Rel j H w) {src dst : TypeId} {x : AV} {x' : Value} {r : AV × AHeap} (hx : VRel j x x') (he : aconv P H src dst x = some r) :
    ∃ x'' w' j', (convert src dst x').run P w = .ok x'' w' ∧ VRel j' r.1 x'' ∧ Rel j' r.2 w' ∧ Ext j H w j' r.2 w' := by
  unfold aconv at he
  split at he <;> (try (cases he; done))
  · split at he
    · rename_i d1 k hu1 hu2
      cases he; cases hx
      exact ⟨_, w, j, by simp [convert, run_underlying hu1, run_underlying hu2, Conv.intToInt], .int _ _, h, Ext.refl _ _ _⟩
    · cases he
  · rename_i s
    split at he
    · rename_i hu1 hu2
      cases he; cases hx
      exact ⟨_, w, j, by simp [convert, run_underlying hu1, run_underlying hu2], .str _, h, Ext.refl _ _ _⟩
    · rename_i e hu1 hu2
      split at he
      · rename_i hu3
        cases he; cases hx
        -- a new row, whose capacity is drawn
        have hsize : (⟨s.toArray⟩ : ByteArray).size = s.length := by simp [ByteArray.size]
        have hge : s.length ≤ (Question.appendCap s.length 0 e).cut (w.tape w.drawn (.appendCap s.length 0 e)) := by
          simp only [Question.cut]; omega
        obtain ⟨cap, hcap⟩ : ∃ cap, (Question.appendCap s.length 0 e).cut (w.tape w.drawn (.appendCap s.length 0 e)) = cap := ⟨_, rfl⟩
        rw [hcap] at hge
        obtain ⟨cs, hcs⟩ : ∃ cs : Array Value, (s.toArray.map fun b => Value.int .u8 b.toNat) ++ Array.replicate (cap - s.length) (.int .u8 0) = cs := ⟨_, rfl⟩
        have hcsz : cs.size = cap := by rw [← hcs]; simp; omega
        have hle := J.le_set (h.bound _ (Nat.le_refl _)) (w.heap.size, 0, cap)
        have key := h.alloc (o := .row true [] (s.map fun c => .int .u8 c.toNat)) (obj := .cells cs e (cs.size, cs.size + 1)) (base := 0) (n := cap) (by simp [AObj.olds])
          ⟨cs, e, (cs.size, cs.size + 1), by simp, by simp only; omega, by simpa using hge, fun i v hv => by
            rw [List.getElem?_map] at hv
            cases hc : s[i]? with
            | none => rw [hc] at hv; cases hv
            | some c =>
              rw [hc] at hv; cases hv
              obtain ⟨hlt, _⟩ := List.getElem?_eq_some_iff.1 hc
              refine ⟨.int .u8 c.toNat, ?_, .int _ _⟩
              simp only [Nat.zero_add]
              rw [← hcs, Array.getElem?_append_left (by simpa using hlt)]
              simp [hc], fun _ i hi => by simp only at hi ⊢; omega⟩
        refine ⟨.slice (some ⟨w.heap.size, 0, none⟩) s.length cap, _, _, ?_, VRel.slice (o := 0) (J.set_self _ _ _) hge (by omega) (by simp), key.1.congr (w' := { ({ w with heap := w.heap.push (.cells cs e (cs.size, cs.size + 1)) } : World) with drawn := w.drawn + 1 }) rfl, key.2.trans (Ext.congr rfl rfl rfl rfl)⟩
        have hfz : ∀ (W : World), W.heap[w.heap.size]? = some (.cells cs e) → (W.freeze ⟨w.heap.size, cs.size, none⟩ 1).heap = W.heap.setIfInBounds w.heap.size (.cells cs e (cs.size, cs.size + 1)) := by
          intro W hW
          unfold World.freeze
          rw [if_neg (by omega)]
          apply Array.ext_getElem?
          intro k
          simp only [Array.getElem?_modify, Array.getElem?_setIfInBounds]
          split
          · rename_i hk; subst hk
            have : w.heap.size < W.heap.size := by
              rcases Nat.lt_or_ge w.heap.size W.heap.size with hh | hh
              · exact hh
              · rw [Array.getElem?_eq_none hh] at hW; cases hW
            rw [if_pos this, hW]; simp
          · rfl
        have hmap : (⟨s.toArray⟩ : ByteArray).data.map (fun b => Value.int .u8 b.toNat) = s.toArray.map fun b => Value.int .u8 b.toNat := rfl
        simp only [convert, Sem.run_bind, run_underlying hu1, run_underlying hu2, run_underlying hu3, Result.andThen_ok, Conv.stringToBytes, run_choose, Question.forced, Bool.false_eq_true, if_false, hsize, hcap, newRow, run_newObj, Sem.run_pure, hmap, hcs]
        have hW : ({ w with heap := w.heap.push (.cells cs e), drawn := w.drawn + 1 } : World).heap[w.heap.size]? = some (.cells cs e) := by simp
        have hsh : ({ w with heap := w.heap.push (.cells cs e), drawn := w.drawn + 1 } : World).shape? w.heap.size = some (e, cs.size) := by simp [World.shape?]
        simp only [markStringish, Sem.run_bind, run_shape, Result.andThen_ok, hsh, run_freeze, Sem.run_pure]
        congr 1
        have h1 := hfz _ hW
        have hother : (({ w with heap := w.heap.push (.cells cs e), drawn := w.drawn + 1 } : World).freeze ⟨w.heap.size, cs.size, none⟩ 1) = { ({ w with heap := w.heap.push (.cells cs e), drawn := w.drawn + 1 } : World) with heap := (({ w with heap := w.heap.push (.cells cs e), drawn := w.drawn + 1 } : World).freeze ⟨w.heap.size, cs.size, none⟩ 1).heap } := by
          unfold World.freeze; rw [if_neg (by omega)]
        rw [hother, h1]
        have hheap : (w.heap.push (Obj.cells cs e)).setIfInBounds w.heap.size (.cells cs e (cs.size, cs.size + 1)) = w.heap.push (.cells cs e (cs.size, cs.size + 1)) := by
          apply Array.ext_getElem?
          intro k
          simp only [Array.getElem?_setIfInBounds, Array.getElem?_push, Array.size_push]
          by_cases hk : w.heap.size = k
          · subst hk; simp
          · rw [if_neg hk]; simp [Ne.symm hk, hk]
        simp only [hheap]
      · cases he
    · cases he
  · split at he
    · rename_i e hu1 hu2
      split at he
      · rename_i hu3
        cases he; cases hx
        exact ⟨_, w, j, run_convert_bytes_nil w src e hu1 hu3 0 0 dst hu2, .str [], h, Ext.refl _ _ _⟩
      · cases he
    · cases he
  · rename_i b o n f
    split at he
    · rename_i e hu1 hu2
      split at he
      · rename_i hu3
        split at he
        · cases he
          cases hx with
          | sliceEmpty hj =>
            have := run_convert_bytes_arg w src e hu1 hu3 0 0 0 0 [] rfl (by simp) dst hu2
            refine ⟨_, w, j, ?_, .str [], h, Ext.refl _ _ _⟩
            rename_i A e0
            rw [run_convert_bytes_string w src dst e _ 0 0 hu1 hu3 hu2, run_bytesToString w A 0 0 [] (by simp [loadCells, loadCellsFrom])]
            rfl
          | slice hj hl hc hf =>
            rename_i B base nn cap
            refine ⟨_, w, j, ?_, .str [], h, Ext.refl _ _ _⟩
            rw [run_convert_bytes_string w src dst e _ 0 cap hu1 hu3 hu2, run_bytesToString w _ 0 cap [] (by simp [loadCells, loadCellsFrom])]
            rfl
        · rename_i k
          split at he
          · rename_i wr olds cells hb
            split at he
            · rename_i hlen
              have hlen := Nat.eq_of_beq_eq_true hlen
              split at he
              · rename_i bs hbs
                cases he
                cases hx with
                | slice hj hl hc hf =>
                  rename_i B base nn cap
                  obtain ⟨l', g1, g2, g3⟩ := h.cellsAt hb hj o (k + 1) hlen
                  obtain ⟨ns, e1, e2⟩ := bytesOfAV_rel g2 hbs
                  subst e1
                  have hload := run_loadCells_list (P := P) w ⟨B, base + o, none⟩ _ g3
                  rw [g1] at hload
                  refine ⟨_, w, j, ?_, .str bs, h, Ext.refl _ _ _⟩
                  rw [run_convert_bytes_string w src dst e _ (k + 1) cap hu1 hu3 hu2, run_bytesToString w _ (k + 1) cap ns hload, foldl_push_bytes, e2]
                  congr 2
                  apply ByteArray.ext
                  simp [ByteArray.empty, ByteArray.emptyWithCapacity]
                  rfl
              · cases he
            · cases he
          · cases he
      · cases he
    · cases he

end Go.Ah
