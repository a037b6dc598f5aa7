/- append, make, copy, len, bytes and texts. -/
import Derived.Test.YtcapeganlaibhaaGreatDoorAhOps5
import Derived.Deep.AppendSrc
import Derived.Deep.DeepAppendWide
import Derived.Laws.BytesArg
set_option linter.unusedVariables false
set_option linter.unusedSimpArgs false
namespace Go.Ah

variable {P : Program} {j : J} {H : AHeap} {w : World}

/-! ## build, make -/
def placesT (P : Program) : List Field → Option (List (Nat × Nat))
  | [] => some []
  | f :: fs => match P.info? f.type, placesT P fs with
    | some i, some r => some ((f.offset, i.size) :: r)
    | _, _ => none
theorem placesT_eq : ∀ (fs : List Field), placesT P fs = fs.mapM (fun f => (P.info? f.type).map fun i => (f.offset, i.size))
  | [] => rfl
  | f :: fs => by
    simp only [placesT, placesT_eq fs, List.mapM_cons, Option.bind_eq_bind, Option.pure_def]
    cases P.info? f.type with
    | none => rfl
    | some i => cases fs.mapM (fun f => (P.info? f.type).map fun i => (f.offset, i.size)) <;> rfl

def abuild (P : Program) (t : TypeId) (parts : List (Nat × AV)) : Option AV :=
  match P.info? t with
  | some it => match it.zero with
    | some z => match (absv 8 z).cells? with
      | some zl => match P.underlying t with
        | some (.struct fields) => match placesT P fields.toList with
          | some places => match afill (fun i => places[i]?) zl parts with
            | some l => some (.agg l)
            | none => none
          | none => none
        | some (.array _ e) => match P.info? e with
          | some ie => match afill (fun i => some (i * ie.size, ie.size)) zl parts with
            | some l => some (.agg l)
            | none => none
          | none => none
        | _ => none
      | none => none
    | none => none
  | none => none

theorem abuild_sound {t : TypeId} {parts : List (Nat × AV)} {parts' : List (Nat × Value)} {x : AV} (hp : PRels j parts parts') (he : abuild P t parts = some x) :
    ∃ x', (Instr.build t parts'.toArray).run P w = .ok x' w ∧ VRel j x x' := by
  unfold abuild at he
  split at he
  · rename_i it hit
    split at he
    · rename_i z hz
      split at he
      · rename_i zl hzl
        have hzr := (VRel.absv j 8 z).cells hzl
        split at he
        · rename_i fields hu
          split at he
          · rename_i places hpl
            split at he
            · rename_i l hl
              cases he
              obtain ⟨r', h1, h2⟩ := afill_sound parts parts' zl l z.cells hp hzr hl
              refine ⟨.agg r', ?_, ?_⟩
              · refine run_build w t _ r' ?_
                rw [placesT_eq] at hpl
                simp only [Program.built, hit, hu, hz, hpl]
                simpa using h1
              · have := VRel.agg h2; simpa using this
            · cases he
          · cases he
        · rename_i n e hu
          split at he
          · rename_i ie hie
            split at he
            · rename_i l hl
              cases he
              obtain ⟨r', h1, h2⟩ := afill_sound parts parts' zl l z.cells hp hzr hl
              refine ⟨.agg r', ?_, ?_⟩
              · refine run_build w t _ r' ?_
                simp only [Program.built, hit, hu, hz, hie]
                simpa using h1
              · have := VRel.agg h2; simpa using this
            · cases he
          · cases he
        · cases he
      · cases he
    · cases he
  · cases he

/-- a zero's cells, n times -/
def aZeros (zl : List AV) : Nat → List AV
  | 0 => []
  | n + 1 => zl ++ aZeros zl n
theorem aZeros_length (zl : List AV) : ∀ n, (aZeros zl n).length = n * zl.length
  | 0 => by simp [aZeros]
  | n + 1 => by simp only [aZeros, List.length_append, aZeros_length zl n, Nat.add_mul]; omega
theorem aZeros_get (zl : List AV) (hz : 0 < zl.length) : ∀ (n i : Nat), i < n * zl.length → (aZeros zl n)[i]? = zl[i % zl.length]?
  | 0, i, h => by simp at h
  | n + 1, i, h => by
    simp only [aZeros]
    by_cases hi : i < zl.length
    · rw [List.getElem?_append_left hi, Nat.mod_eq_of_lt hi]
    · rw [List.getElem?_append_right (by omega), aZeros_get zl hz n _ (by rw [Nat.add_mul] at h; omega)]
      rw [Nat.mod_eq_sub_mod (a := i) (b := zl.length) (by omega)]

theorem aZeros_rel {zl : List AV} {z : Array Value} (hz : VRels j zl z.toList) (n m : Nat) (hm : m = n * zl.length) : VRels j (aZeros zl n) ((Array.range m).map (z[· % z.size]!)).toList := by
  have hl := hz.length
  simp only [Array.length_toList] at hl
  refine VRels.of_get ?_ fun i v v' hv hv' => ?_
  · simp [aZeros_length, hm]
  · have hlt : i < n * zl.length := by
      rcases Nat.lt_or_ge i (aZeros zl n).length with h | h
      · rwa [aZeros_length] at h
      · rw [List.getElem?_eq_none h] at hv; cases hv
    have hpos : 0 < zl.length := by
      rcases Nat.eq_zero_or_pos zl.length with h | h
      · rw [h] at hlt; simp at hlt
      · exact h
    rw [aZeros_get zl hpos n i hlt] at hv
    obtain ⟨x, h1, h2⟩ := hz.get hv
    have hmod : i % z.size < z.size := Nat.mod_lt _ (by omega)
    simp only [Array.getElem?_toList] at h1 hv'
    rw [Array.getElem?_map, Array.getElem?_range, if_pos (by omega)] at hv'
    simp only [Option.map_some, Option.some.injEq] at hv'
    rw [← hv', getElem!_pos z _ hmod]
    rw [hl, Array.getElem?_eq_getElem hmod] at h1
    cases h1; exact h2

def abuildSlice (P : Program) (H : AHeap) (t : TypeId) (len : Nat) (parts : List (Nat × AV)) : Option (AV × AHeap) :=
  match P.underlying t with
  | some (.slice e) => match P.info? e with
    | some ie => match ie.zero with
      | some z => match (absv 8 z).cells? with
        | some zl => match Nat.ble (len * ie.size) 16777216 && Nat.beq zl.length ie.size with
          | true => match afill (fun i => some (i * ie.size, ie.size)) (aZeros zl len) parts with
            | some l => some (.slice (some (H.next, 0)) len ie.size true, (anew H l).2)
            | none => none
          | false => none
        | none => none
      | none => none
    | none => none
  | _ => none

theorem szT_of {t : TypeId} {i : TypeInfo} (h : P.info? t = some i) : szT P t = some i.size := by simp [szT, h]

theorem anewSlice_sound (h : Rel j H w) {cells : List AV} {cs : Array Value} (E : TypeId) (hc : VRels j cells cs.toList) {len cap sz : Nat} {f : Bool} (hl : len ≤ cap) (hcap : cap * sz ≤ cs.size) (hf : f = true → cap = len) :
    ∃ a w' j', (newRow E cs).run P w = .ok a w' ∧ VRel j' (.slice (some (H.next, 0)) len sz f) (.slice (some a) len cap) ∧ Rel j' (anew H cells).2 w' ∧ Ext j H w j' (anew H cells).2 w' ∧ Made j w (.slice len sz f) (.row true [] cells) (.slice (some a) len cap) w' := by
  obtain ⟨a, w', j', h1, _, h2, h3, h4, h5, h7, h8⟩ := anew_sound (P := P) h E hc
  refine ⟨a, w', j', h1, ?_, h4, h5, rfl, _, cs.size, h8, fun j2 id hle hid => ⟨?_, by rw [h8]; exact ORel.newRow E hc hle⟩⟩
  rotate_left
  · rw [h3, h7]; exact VRel.slice (o := 0) hid hl (by omega) hf
  rw [h3]
  exact VRel.slice (o := 0) h2 hl (by omega) hf

theorem abuildSlice_sound (h : Rel j H w) {t : TypeId} {len : Nat} {parts : List (Nat × AV)} {parts' : List (Nat × Value)} {r : AV × AHeap} (hp : PRels j parts parts') (he : abuildSlice P H t len parts = some r) :
    ∃ x' w' j', (Instr.buildSlice t len parts'.toArray).run P w = .ok x' w' ∧ VRel j' r.1 x' ∧ Rel j' r.2 w' ∧ Ext j H w j' r.2 w' ∧ ∃ sh o, r = (sh.mk H.next, H.alloc o) ∧ Made j w sh o x' w' := by
  unfold abuildSlice at he
  split at he
  · rename_i e hu
    split at he
    · rename_i ie hie
      split at he
      · rename_i z hz
        split at he
        · rename_i zl hzl
          have hzr := (VRel.absv j 8 z).cells hzl
          split at he
          · rename_i hb
            simp only [Bool.and_eq_true] at hb
            have hb1 := Nat.le_of_ble_eq_true hb.1
            have hb2 := Nat.eq_of_beq_eq_true hb.2
            split at he
            · rename_i l hl
              cases he
              have hzlen := hzr.length
              simp only [Array.length_toList] at hzlen
              have hzz : VRels j (aZeros zl len) ((Array.range (len * ie.size)).map ((if len * ie.size = 0 then #[] else z.cells)[· % (if len * ie.size = 0 then #[] else z.cells).size]!)).toList := by
                by_cases h0 : len * ie.size = 0
                · rw [h0]
                  have hl0 : (aZeros zl len).length = 0 := by rw [aZeros_length, hb2]; exact h0
                  rw [List.length_eq_zero_iff.1 hl0]
                  simp; exact .nil
                · rw [if_neg h0]; exact aZeros_rel hzr len _ (by rw [hb2])
              obtain ⟨r', h1, h2⟩ := afill_sound parts parts' _ l _ hp hzz hl
              have hsz : r'.size = len * ie.size := by
                have := h2.length
                simp only [Array.length_toList] at this
                rw [← this]
                have key : ∀ (parts : List (Nat × AV)) (c r : List AV), afill (fun i => some (i * ie.size, ie.size)) c parts = some r → r.length = c.length := by
                  intro parts
                  induction parts with
                  | nil => intro c r h; simp only [afill, Option.some.injEq] at h; rw [h]
                  | cons p ps ih =>
                    obtain ⟨i, v⟩ := p
                    intro c r h
                    simp only [afill] at h
                    split at h
                    · cases h
                    · split at h
                      · rename_i hbb
                        simp only [Bool.and_eq_true] at hbb
                        have := Nat.le_of_ble_eq_true hbb.2
                        rw [ih _ _ h]
                        simp only [List.length_append, List.length_take, List.length_drop]; omega
                      · cases h
                rw [key _ _ _ hl, aZeros_length, hb2]
              obtain ⟨a, w', j', g1, g2, g3, g4, g5⟩ := anewSlice_sound (P := P) h e h2 (len := len) (cap := len) (sz := ie.size) (f := true) (Nat.le_refl _) (by omega) (fun _ => rfl)
              refine ⟨_, w', j', ?_, g2, g3, g4, .slice len ie.size true, _, rfl, g5⟩
              have hno : ¬ (16777216 < len * ie.size) := by omega
              have hzero : (if len * ie.size = 0 then (pure #[] : Sem (Array Value)) else do pure (← zeroValue e).cells).run P w = .ok (if len * ie.size = 0 then #[] else z.cells) w := by
                split
                · rfl
                · simp [run_zeroA hie hz]
              unfold Instr.buildSlice
              simp only [Sem.run_bind, run_underlying hu, Result.andThen_ok, run_sizeOfA (szT_of hie)]
              simp only [show (2 : Nat) ^ 24 = 16777216 by decide]
              by_cases h0 : len * ie.size = 0
              · rw [if_pos h0] at h1
                rw [if_neg (by omega), if_pos h0]
                simp only [Sem.run_bind, Sem.run_pure, Result.andThen_ok]
                simp only [h1, Sem.run_bind, g1, Result.andThen_ok, Sem.run_pure]
              · rw [if_neg h0] at h1
                rw [if_neg (by omega), if_neg h0]
                simp only [Sem.run_bind, run_zeroA hie hz, Sem.run_pure, Result.andThen_ok]
                simp only [h1, Sem.run_bind, g1, Result.andThen_ok, Sem.run_pure]
            · cases he
          · cases he
        · cases he
      · cases he
    · cases he
  · cases he

end Go.Ah
