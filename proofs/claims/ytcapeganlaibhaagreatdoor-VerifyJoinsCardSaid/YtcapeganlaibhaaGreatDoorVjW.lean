/- A world in which the listed package-level variables hold what the row lists: for the witness. -/
import Derived.Test.YtcapeganlaibhaaGreatDoorCards
import Derived.Test.YtcapeganlaibhaaGreatDoorTie
import Derived.WalkKit
import Derived.ProofKit
import Derived.OpenShut
import Derived.Deep.DeepHandedRow
import Derived.Deep.DeepWitnessRowRef
import Derived.LaidLaws
namespace Go.Ah
/-- a type by its name -/
def typeNamed (P : Program) (name : String) : Nat → TypeId
  | 0 => 0
  | n + 1 => match P.typeName? 3 n with
    | some m => if m = name then n else typeNamed P name n
    | none => typeNamed P name n
mutual
/-- the cells of a datum, and the blocks behind its pointers; n: the number of the next block -/
def layD (P : Program) : Nat → TypeId → DataW Unit → Nat → List Value × List (List Value × TypeId)
  | 0, _, _, _ => ([], [])
  | f + 1, t, d, n => match d with
    | .lit (.bool b) => ([.bool b], [])
    | .lit (.int k z) => ([.int k z], [])
    | .lit (.string s) => ([.string ⟨s.toArray⟩], [])
    | .nil => match P.underlying t with
      | some (.pointer _) => ([.pointer none], [])
      | some (.slice _) => ([.slice none 0 0], [])
      | some (.map _ _) => ([.map none], [])
      | some (.interface _) => ([.nilIface], [])
      | _ => ([.nilFunc], [])
    | .ptr d => match P.underlying t with
      | some (.pointer e) => match layD P f e d n with
        | (cs, bl) => ([.pointer (some ⟨n + bl.length, 0, none⟩)], bl ++ [(cs, e)])
      | _ => ([], [])
    | .slice elems _ => match P.underlying t with
      | some (.slice e) => match layDs P f (elems.map fun d => (e, d)) n with
        | (cs, bl) => ([.slice (some ⟨n + bl.length, 0, none⟩) elems.length elems.length], bl ++ [(cs, e)])
      | _ => ([], [])
    | .agg parts => match P.underlying t with
      | some (.struct fs) => layDs P f ((fs.toList.map (·.type)).zip parts) n
      | some (.array _ e) => layDs P f (parts.map fun d => (e, d)) n
      | _ => ([], [])
    | .iface name d => match typeNamed P name P.types.size with
      | u => match layD P f u d n with
        | ([v], bl) => ([.iface u v], bl)
        | (cs, bl) => ([.iface u (.agg cs.toArray)], bl)
    | _ => ([], [])
def layDs (P : Program) : Nat → List (TypeId × DataW Unit) → Nat → List Value × List (List Value × TypeId)
  | 0, _, _ => ([], [])
  | _ + 1, [], _ => ([], [])
  | f + 1, (t, d) :: l, n => match layD P f t d n with
    | (cs, bl) => match layDs P f l (n + bl.length) with
      | (cs', bl') => (cs ++ cs', bl ++ bl')
end
/-- all the listed variables -/
def layAll (P : Program) : List (String × DataW Unit) → Nat → List (Nat × List Value) × List (List Value × TypeId)
  | [], _ => ([], [])
  | (name, d) :: l, n => match P.globalNamed name with
    | some g => match (P.globals[g]?).map (·.type) with
      | some t => match layD P 1000 t d n with
        | (cs, bl) => match layAll P l (n + bl.length) with
          | (vs, bl') => ((g, cs) :: vs, bl ++ bl')
      | none => layAll P l n
    | none => layAll P l n
def putCells (h : Array Obj) (g : Nat) (cs : Array Value) : Array Obj := h.modify g fun
  | .cells _ t frozen => .cells cs t frozen
  | o => o
def putVars : List (Nat × List Value) → Array Obj → Array Obj
  | [], h => h
  | (g, cs) :: l, h => putVars l (putCells h g cs.toArray)
def laidWorldOf (P : Program) (os : Os) (laid : List (String × DataW Unit)) (n : Nat) : World :=
  let x := layAll P laid n
  let w0 := World.holding P os ⟨(x.2.map fun (b : List Value × TypeId) => Obj.cells b.1.toArray b.2 (0, 0)).toArray, #[], []⟩
  { w0 with heap := putVars x.1 w0.heap }
end Go.Ah
