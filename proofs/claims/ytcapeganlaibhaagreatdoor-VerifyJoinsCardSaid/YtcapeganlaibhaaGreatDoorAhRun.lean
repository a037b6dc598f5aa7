/- The evaluator: regions whose order is drawn, code, calls, deferred calls. -/
import Derived.Test.YtcapeganlaibhaaGreatDoorAhCongr
set_option linter.unusedVariables false
namespace Go.Ah

def AVpairs.beq : List (AV × AV) → List (AV × AV) → Bool
  | [], [] => true
  | (a, b) :: l, (c, d) :: m => AV.beq a c && (AV.beq b d && AVpairs.beq l m)
  | _, _ => false
def natsBeq : List Nat → List Nat → Bool
  | [], [] => true
  | a :: l, b :: m => Nat.beq a b && natsBeq l m
  | _, _ => false
def AObj.beq : AObj → AObj → Bool
  | .row w o c, .row w' o' c' => beqBool w w' && (natsBeq o o' && AV.beqs c c')
  | .map es, .map es' => AVpairs.beq es es'
  | _, _ => false

def heavy (op : Op) : Bool :=
  match op with
  | .store .. | .mapUpdate .. | .insert .. | .defer .. | .panic .. => true
  | .call c => match c.callee with
    | .builtin b => match b with
      | .len => false
      | .min => false
      | .max => false
      | _ => true
    | _ => true
  | _ => false

def makes (op : Op) : Bool :=
  match op with
  | .alloc .. | .box .. | .buildSlice .. | .makeSlice .. | .makeMap .. => true
  | _ => false

/-- an operation, its place, and who stands before it -/
structure Ent where
  i : Nat
  o : Oper
  m : Nat

def ents : Nat → List Oper → List Nat → List Ent
  | i, o :: l, m :: ms => ⟨i, o, m⟩ :: ents (i + 1) l ms
  | _, _, _ => []

def tmpOf : Operand → Option Nat
  | .tmp t => some t
  | _ => none
def tmpsOf : List Operand → List Nat
  | [] => []
  | x :: l => match tmpOf x with
    | some t => t :: tmpsOf l
    | none => tmpsOf l

def allB {α : Type} (p : α → Bool) : List α → Bool
  | [] => true
  | x :: l => p x && allB p l

def isDst (d : Option Nat) (t : Nat) : Bool :=
  match d with
  | some d => Nat.beq d t
  | none => false

def heavyE (e : Ent) : Bool := heavy e.o.op
def lightE (e : Ent) : Bool := !heavy e.o.op

def filterB {α : Type} (p : α → Bool) : List α → List α
  | [] => []
  | x :: l => match p x with
    | true => x :: filterB p l
    | false => filterB p l

/-- the tmps an operation looks at -/
def readsE (e : Ent) : List Nat := tmpsOf e.o.op.operands.toList

/-- what an operation looks at has been made before it -/
def readsOk (ls : List Ent) (e : Ent) : Bool :=
  allB (fun t => allB (fun l => !isDst l.o.dst t || hasBit e.m l.i) ls) (readsE e)
def guardOk (es : List Ent) (e : Ent) : Bool :=
  match e.o.guard with
  | none => true
  | some (g, _) => hasBit e.m g && Nat.blt g e.i
/-- nobody else writes what a light one writes -/
def ownDst (es : List Ent) (l : Ent) : Bool :=
  match l.o.dst with
  | none => false
  | some d => allB (fun e => Nat.beq e.i l.i || !isDst e.o.dst d) es
def linked : List Ent → Bool
  | [] => true
  | h :: l => allB (fun k => hasBit k.m h.i) l && linked l
def backOk : Nat → List Oper → Bool
  | _, [] => true
  | i, o :: l => allB (fun k => Nat.blt k i) (edgesOn o) && backOk (i + 1) l
def drawOk (ops : List Oper) (es : List Ent) : Bool :=
  backOk 0 ops && (allB (fun e => readsOk (filterB lightE es) e && guardOk es e) es && (allB (ownDst es) (filterB lightE es) && linked (filterB heavyE es)))

def stage (hs : List Ent) (m : Nat) : Nat :=
  match hs with
  | [] => 0
  | h :: l => match hasBit m h.i with
    | true => stage l m + 1
    | false => stage l m

/-- one light operation -/
def runLight (P : Program) (n : Nat) (ops : Array Oper) (e : Ent) (T : Trie AV) (H : AHeap) : Option (Trie AV × AHeap) :=
  match e.o.dst with
  | none => none
  | some d => match Nat.blt d n with
    | false => none
    | true => match aguard ops T e.o with
      | none => none
      | some false => some (T.put d (some undefA), H)
      | some true => match makes e.o.op with
        | true => match amake P H T e.o.op with
          | some (sh, ob) => match ob.olds with
            | [] => some (T.put d (some (sh.mk H.next)), H.alloc ob)
            | _ => none
          | none => none
        | false => match alight P H T e.o.op with
          | some v => some (T.put d (some v), H)
          | none => none
def runLights (P : Program) (n : Nat) (ops : Array Oper) : List Ent → Trie AV → AHeap → Option (Trie AV × AHeap)
  | [], T, H => some (T, H)
  | e :: l, T, H => match runLight P n ops e T H with
    | none => none
    | some (T, H) => runLights P n ops l T H

def shId : AV → Option Nat
  | .ptr (some (b, _)) => some b
  | .slice (some (b, _)) _ _ _ => some b
  | .map (some b) => some b
  | _ => none

/-- it would find now what it found -/
def stable (P : Program) (ops : Array Oper) (e : Ent) (T : Trie AV) (H : AHeap) : Bool :=
  match e.o.dst with
  | none => false
  | some d => match T.get d with
    | none => false
    | some v => match aguard ops T e.o with
      | none => false
      | some false => AV.beq v undefA
      | some true => match makes e.o.op with
        | true => match amake P H T e.o.op with
          | some (sh, ob) => match shId v with
            | some id => AV.beq v (sh.mk id) && (Nat.ble H.gn id && match H.get id with
              | some ob' => AObj.beq ob' ob
              | none => false)
            | none => false
          | none => false
        | false => match alight P H T e.o.op with
          | some v' => AV.beq v v'
          | none => false

/-- the number of what it made -/
def madeId (T : Trie AV) (e : Ent) : Option Nat :=
  match makes e.o.op with
  | true => match e.o.dst with
    | some d => match T.get d with
      | some v => shId v
      | none => none
    | none => none
  | false => none

def distinct (T : Trie AV) : List Ent → Bool
  | [] => true
  | e :: l => (match madeId T e with
    | some id => allB (fun k => match madeId T k with
      | some id' => !Nat.beq id id'
      | none => true) l
    | none => true) && distinct T l

def anyB {α : Type} (p : α → Bool) : List α → Bool
  | [] => false
  | x :: l => p x || anyB p l

/-- a light one that may be still to come when the heavy ones `past` are done -/
def mayWait (hs past : List Ent) (e : Ent) : Bool :=
  lightE e && (Nat.ble (stage hs e.m) past.length && !anyB (fun h => hasBit h.m e.i) past)

def stageOk (P : Program) (ops : Array Oper) (es : List Ent) (T : Trie AV) (H : AHeap) : Bool :=
  allB (fun e => stable P ops e T H) es && distinct T es

def eraseAll (T : Trie AV) : List Ent → Trie AV
  | [] => T
  | e :: l => match e.o.dst with
    | some d => eraseAll (T.put d none) l
    | none => eraseAll T l

/-- from the heavy ones `past` on -/
def evStages {α : Type} (bot : String → α) (P : Program) (call : CallKG α) (n : Nat) (ops : Array Oper) (es hs : List Ent) (K : KontG α) : (past rest : List Ent) → St → α
  | past, rest, s => match runLights P n ops (filterB (fun e => lightE e && Nat.beq (stage hs e.m) past.length) es) s.T s.H with
    | none => bot "light operation"
    | some (T, H) => match stageOk P ops (filterB (mayWait hs past) es) T H with
      | false => bot "not stable"
      | true => match rest with
        | [] => K .normal ⟨T, s.D, H⟩
        | h :: rest => match aguard ops T h.o with
          | none => bot "guard"
          | some false => tput bot n T h.o.dst undefA fun T => evStages bot P call n ops es hs K (h :: past) rest ⟨T, s.D, H⟩
          | some true => match aexec P H T h.o.op with
            | .val v H => tput bot n T h.o.dst v fun T => evStages bot P call n ops es hs K (h :: past) rest ⟨T, s.D, H⟩
            | .skip H => tput bot n T h.o.dst undefA fun T => evStages bot P call n ops es hs K (h :: past) rest ⟨T, s.D, H⟩
            | .call f args => call f args H fun e H => match e with
              | .ret v => tput bot n T h.o.dst v fun T => evStages bot P call n ops es hs K (h :: past) rest ⟨T, s.D, H⟩
              | .panic c => K (.panic c) ⟨eraseAll T (filterB lightE es), s.D, H⟩
            | .defer f args cap => tput bot n T h.o.dst undefA fun T => evStages bot P call n ops es hs K (h :: past) rest ⟨T, ⟨f, args, cap⟩ :: s.D, H⟩
            | .panic v => K (.panic [(v, false)]) ⟨eraseAll T (filterB lightE es), s.D, H⟩
            | .recover => bot "recover"
            | .stuck => bot "operation"
  termination_by structural _ rest => rest

def evDraw {α : Type} (bot : String → α) (P : Program) (call : CallKG α) (n : Nat) (ops : Array Oper) (es : List Ent) (K : KontG α) (s : St) : α :=
  match drawOk ops.toList es with
  | false => bot "an order is not known"
  | true => evStages bot P call n ops es (filterB heavyE es) K [] (filterB heavyE es) s

inductive AMode where
  | returning
  | panicking (c : AChain)

structure RecG (α : Type) where
  call : CallKG α
  loop : Nat → Code → KontG α → St → α
  callD : FuncId → List AV → AMode → AHeap → (AEnd → AMode → AHeap → α) → α

def evCode {α : Type} (bot : String → α) (P : Program) (R : RecG α) (n : Nat) : Code → KontG α → St → α
  | .skip, K, s => K .normal s
  | .label _, K, s => K .normal s
  | .exit id, K, s => K (.exit id) s
  | .goto l, K, s => K (.goto l) s
  | .ret, K, s => K .ret s
  | .region _ ops false, K, s => evOps bot P R.call n ops K ops.toList s
  | .region _ ops true, K, s => evDraw bot P R.call n ops (ents 0 ops.toList (masks ops.toList [])) K s
  | .seq x y, K, s => evCode bot P R n x (kthen (fun s => evCode bot P R n y K s) K) s
  | .cond c x y, K, s => match aeval s.H s.T c with
    | .bool true => evCode bot P R n x K s
    | .bool false => evCode bot P R n y K s
    | _ => bot "condition"
  | .block id c, K, s => evCode bot P R n c (kblock id K) s
  | .scope c, K, s => evCode bot P R n c (kscope bot K) s
  | .loop c, K, s => R.loop n c K s
  | .rangeFunc .., _, _ => bot "range over func"
  | .refuse _, _, _ => bot "refuse"

def ares (P : Program) (T : Trie AV) (H : AHeap) : List ResultVar → Option (List AV)
  | [] => some []
  | .tmp t :: l => match T.get t with
    | some v => match ares P T H l with
      | some vs => some (v :: vs)
      | none => none
    | none => none
  | .cell a t :: l => match T.get a with
    | some p => match aload P H t p with
      | some v => match ares P T H l with
        | some vs => some (v :: vs)
        | none => none
      | none => none
    | none => none
def aresults (P : Program) (fn : Func) (T : Trie AV) (H : AHeap) : Option AV :=
  match ares P T H fn.results.toList with
  | some [v] => some v
  | some vs => some (.tuple vs)
  | none => none

def asettle : AMode → AMode
  | .panicking ((v, true) :: older) => .returning
  | m => m
def araised (u : AMode) (c : AChain) : AMode :=
  match u with
  | .panicking old => .panicking (c ++ old)
  | .returning => .panicking c

/-- the deferred calls, the last first -/
def evLeaves {α : Type} (bot : String → α) (P : Program) (R : RecG α) (fn : Func) (T : Trie AV) (Q : AEnd → AHeap → α) : List ADef → AMode → AHeap → α
  | [], u, H => match u with
    | .returning => match aresults P fn T H with
      | some v => Q (.ret v) H
      | none => bot "result"
    | .panicking c => Q (.panic c) H
  | d :: ds, u, H => R.callD d.f (d.args ++ d.cap) u H fun e u' H' => match e with
    | .ret _ => evLeaves bot P R fn T Q ds (asettle u') H'
    | .panic c => evLeaves bot P R fn T Q ds (araised u' c) H'

def bodyK {α : Type} (bot : String → α) (P : Program) (R : RecG α) (fn : Func) (Q : AEnd → AHeap → α) : KontG α
  | .normal, s => evLeaves bot P R fn s.T Q s.D .returning s.H
  | .ret, s => evLeaves bot P R fn s.T Q s.D .returning s.H
  | .panic c, s => evLeaves bot P R fn s.T Q s.D (.panicking c) s.H
  | .exit _, _ => bot "exit"
  | .goto _, _ => bot "goto"

def tmpsFrom : Nat → List AV → Trie AV → Trie AV
  | _, [], T => T
  | i, v :: l, T => tmpsFrom (i + 1) l (T.put i (some v))

def evFun {α : Type} (bot : String → α) (P : Program) (R : RecG α) (f : FuncId) (args : List AV) (H : AHeap) (Q : AEnd → AHeap → α) : α :=
  match P.funcs[f]? with
  | none => bot "function"
  | some fn => match fn.body with
    | none => bot "function without a body"
    | some c => match Nat.ble args.length fn.ntmps with
      | false => bot "arguments"
      | true => evCode bot P R fn.ntmps c (bodyK bot P R fn Q) ⟨tmpsFrom 0 args .leaf, [], H⟩

/-! ## code that may recover -/
abbrev KontS (α : Type) := AX → St → AMode → α
def hasRecover : Code → Bool
  | .region _ ops _ => anyB (fun o => match o.op with
    | .call c => match c.callee with
      | .builtin b => match b with
        | .recover => true
        | _ => false
      | _ => false
    | _ => false) ops.toList
  | .seq x y => hasRecover x || hasRecover y
  | .cond _ x y => hasRecover x || hasRecover y
  | .block _ c => hasRecover c
  | .scope c => hasRecover c
  | .loop c => hasRecover c
  | _ => false

def arecover : AMode → AV × AMode
  | .panicking ((v, false) :: older) => (v, .panicking ((v, true) :: older))
  | u => (.nilIface, u)

def evOpsS {α : Type} (bot : String → α) (P : Program) (call : CallKG α) (n : Nat) (ops : Array Oper) (K : KontS α) : List Oper → St → AMode → α
  | [], s, u => K .normal s u
  | o :: rest, s, u => match aguard ops s.T o with
    | none => bot "guard"
    | some false => tput bot n s.T o.dst undefA fun T => evOpsS bot P call n ops K rest ⟨T, s.D, s.H⟩ u
    | some true => match aexec P s.H s.T o.op with
      | .val v H => tput bot n s.T o.dst v fun T => evOpsS bot P call n ops K rest ⟨T, s.D, H⟩ u
      | .skip H => tput bot n s.T o.dst undefA fun T => evOpsS bot P call n ops K rest ⟨T, s.D, H⟩ u
      | .recover => match arecover u with
        | (v, u') => tput bot n s.T o.dst v fun T => evOpsS bot P call n ops K rest ⟨T, s.D, s.H⟩ u'
      | _ => bot "operation beside recover"

def evCodeS {α : Type} (bot : String → α) (P : Program) (R : RecG α) (n : Nat) : Code → KontS α → St → AMode → α
  | .region id ops d, K, s, u => match hasRecover (.region id ops d) with
    | true => match d with
      | true => bot "recover in an order that is drawn"
      | false => evOpsS bot P R.call n ops K ops.toList s u
    | false => evCode bot P R n (.region id ops d) (fun x s => K x s u) s
  | .seq x y, K, s, u => evCodeS bot P R n x (fun
    | .normal, s, u => evCodeS bot P R n y K s u
    | x, s, u => K x s u) s u
  | .cond c x y, K, s, u => match aeval s.H s.T c with
    | .bool true => evCodeS bot P R n x K s u
    | .bool false => evCodeS bot P R n y K s u
    | _ => bot "condition"
  | c, K, s, u => match hasRecover c with
    | true => bot "recover in a block"
    | false => evCode bot P R n c (fun x s => K x s u) s

def evFunD {α : Type} (bot : String → α) (P : Program) (R : RecG α) (f : FuncId) (args : List AV) (u : AMode) (H : AHeap) (Q : AEnd → AMode → AHeap → α) : α :=
  match P.funcs[f]? with
  | none => bot "function"
  | some fn => match fn.body with
    | none => bot "function without a body"
    | some c => match Nat.ble args.length fn.ntmps with
      | false => bot "arguments"
      | true => match canEnter P f with
        | false => bot "arguments"
        | true => evCodeS bot P R fn.ntmps c (fun x s u => match s.D with
        | [] => match x with
          | .normal => (match aresults P fn s.T s.H with | some v => Q (.ret v) u s.H | none => bot "result")
          | .ret => (match aresults P fn s.T s.H with | some v => Q (.ret v) u s.H | none => bot "result")
          | .panic c => Q (.panic c) u s.H
          | _ => bot "exit"
        | _ => bot "defer in a deferred call") ⟨tmpsFrom 0 args .leaf, [], H⟩ u

/-- with so much fuel -/
def recN {α : Type} (bot : String → α) (P : Program) : Nat → RecG α
  | 0 => ⟨fun _ _ _ _ => bot "fuel", fun _ _ _ _ => bot "fuel", fun _ _ _ _ _ => bot "fuel"⟩
  | f + 1 => ⟨evFun bot P (recN bot P f), fun n c K s => evCode bot P (recN bot P f) n c (kthen (fun s => (recN bot P f).loop n c K s) K) s, evFunD bot P (recN bot P f)⟩

end Go.Ah
