/- The abstract machine, part N: the evaluator: regions that draw their order, code, calls. -/
import Derived.Test.YthaodoaaefhhcaaGreatDoorAwO
namespace Go.Aw
open Go Go.RowKit
set_option linter.unusedVariables false
set_option linter.unusedSimpArgs false

/-! ## A region that draws its order -/
def edgeMask (acc : List Nat) (es : List Edge) : Nat :=
  es.foldl (fun m e => bif Region.binds .any e then Nat.lor m (Nat.lor (2 ^ e.on) (acc.getD e.on 0)) else m) 0
def masksGo : List Oper → List Nat → List Nat
  | [], acc => acc
  | o :: r, acc => masksGo r (acc ++ [edgeMask acc o.after.toList])
def masks (ops : Array Oper) : List Nat := masksGo ops.toList []

def quietBuiltin : Builtin → Bool
  | .len | .cap | .min | .max => true
  | _ => false

/-- Operations that look at no memory (or are tried without any). -/
def isP : Op → Bool
  | .move _ | .assign _ | .pick .. | .binOp .. | .unOp .. | .slice .. | .fieldAddr .. | .indexAddr .. | .nilCheck _ | .extract .. | .field .. | .index .. | .makeInterface .. | .makeFunc .. | .build .. => true
  | .call { callee := .builtin b, .. } => quietBuiltin b
  | _ => false

def isDefer : Op → Bool
  | .defer _ => true
  | _ => false

def pAt (ops : Array Oper) (i : Nat) : Bool :=
  match ops[i]? with
  | some o => isP o.op
  | none => true

def before (ms : List Nat) (j i : Nat) : Bool := Nat.testBit (ms.getD i 0) j

def compB (ms : List Nat) (i j : Nat) : Bool := before ms j i || before ms i j

def isW (ops : Array Oper) (ms : List Nat) (i : Nat) : Bool :=
  (List.range ops.size).all fun j => Nat.beq j i || pAt ops j || compB ms i j

def apartAt (ops : Array Oper) (i j : Nat) : Bool :=
  match ops[i]?, ops[j]? with
  | some x, some y => Oper.apart ops x y
  | _, _ => false

def dstAt (ops : Array Oper) (i : Nat) : Option Tmp := (ops[i]?).bind (·.dst)

def dstsApart (ops : Array Oper) (i j : Nat) : Bool :=
  match dstAt ops i, dstAt ops j with
  | some a, some b => !(Nat.beq a b)
  | _, _ => true

def drawOk (ops : Array Oper) (ms : List Nat) : Bool :=
  (List.range ops.size).all fun i =>
    Nat.blt (ms.getD i 0) (2 ^ i) &&
    (List.range i).all fun j =>
      dstsApart ops j i && (before ms j i || apartAt ops j i) && (!(before ms j i) || Nat.beq (Nat.land (ms.getD j 0) (ms.getD i 0)) (ms.getD j 0))

def eraseIds (ops : Array Oper) (ms : List Nat) (nx : List Nat) (i : Nat) : List Nat :=
  (List.range i).flatMap fun j => bif pAt ops j || before ms j i then [] else List.range' (nx.getD j 0) (nx.getD (j + 1) 0 - nx.getD j 0)

def eraseAll (h : Tr AObj) (l : List Nat) : Tr AObj := l.foldl (fun h b => h.set b none) h
def putNew (h src : Tr AObj) (l : List Nat) : Tr AObj := l.foldl (fun h b => h.set b (src.get b)) h

def stepD (P : Program) (call : CallF) (ops : Array Oper) (ms : List Nat) (nx : List Nat) (i : Nat) (o : Oper) (a : AAct) (s : AS) : Option (AAct × AS) :=
  bif Region.wanted o (yieldedA ops a) then
    bif isP o.op then
      match evVal P call o a.eval { s with lock := s.next, heap := .leaf } with
      | some (v, none, s') => bif Nat.beq s'.next s.next then andPut a o.dst v s else none
      | _ => none
    else bif isW ops ms i then
      match evVal P call o a.eval s with
      | some (v, d, s') => bif Nat.ble s.next s'.next then andPut (addD a d) o.dst v s' else none
      | none => none
    else
      match evVal P call o a.eval { s with lock := s.next, heap := eraseAll s.heap (eraseIds ops ms nx i) } with
      | some (v, none, s') => bif Nat.ble s.next s'.next then andPut a o.dst v { next := s'.next, lock := s.lock, heap := putNew s.heap s'.heap (List.range' s.next (s'.next - s.next)) } else none
      | _ => none
  else andPut a o.dst undef s

def evDrawGo (P : Program) (call : CallF) (ops : Array Oper) (ms : List Nat) : Nat → Nat → List Nat → AAct → AS → Option (AAct × AS)
  | 0, _, _, a, s => some (a, s)
  | k + 1, i, nx, a, s =>
    match ops[i]? with
    | some o =>
      match stepD P call ops ms nx i o a s with
      | some (a', s') => evDrawGo P call ops ms k (i + 1) (nx ++ [s'.next]) a' s'
      | none => none
    | none => none

def evDraw (P : Program) (call : CallF) (ops : Array Oper) (a : AAct) (s : AS) : Option (AAct × AS) :=
  bif drawOk ops (masks ops) then evDrawGo P call ops (masks ops) ops.size 0 [s.next] a s else none

/-! ## Code -/
abbrev CodeF := Code → AAct → AS → Option (Exit × AAct × AS)

def loopA (code : CodeF) (c : Code) : Nat → AAct → AS → Option (Exit × AAct × AS)
  | 0, _, _ => none
  | n + 1, a, s =>
    match code c a s with
    | some (.normal, a1, s1) => loopA code c n a1 s1
    | r => r

def jumpsA (code : CodeF) (c : Code) : Nat → Option (Exit × AAct × AS) → Option (Exit × AAct × AS)
  | n, some (.goto l, a, s) =>
    match findLabel c l with
    | none => some (.goto l, a, s)
    | some rest =>
      match n with
      | 0 => none
      | n + 1 => jumpsA code c n (code rest a s)
  | _, r => r

def codeStep (P : Program) (call : CallF) (code : CodeF) : CodeF
  | .skip, a, s => some (.normal, a, s)
  | .label _, a, s => some (.normal, a, s)
  | .region _ ops draw, a, s =>
    match (bif draw then evDraw P call ops a s else evIdx P call ops (List.range ops.size) a s) with
    | some (a', s') => some (.normal, a', s')
    | none => none
  | .seq x y, a, s =>
    match code x a s with
    | some (.normal, a1, s1) => code y a1 s1
    | r => r
  | .cond c x y, a, s =>
    match a.eval c with
    | .bool true => bif constOk P c then code x a s else none
    | .bool false => bif constOk P c then code y a s else none
    | _ => none
  | .block id c, a, s =>
    match code c a s with
    | some (.exit id', a1, s1) => bif Nat.beq id' id then some (.normal, a1, s1) else some (.exit id', a1, s1)
    | r => r
  | .loop c, a, s => loopA code c 4096 a s
  | .exit id, a, s => some (.exit id, a, s)
  | .goto l, a, s => some (.goto l, a, s)
  | .ret, a, s => some (.ret, a, s)
  | .scope c, a, s => jumpsA code c 64 (code c a s)
  | _, _, _ => none

def argTmps : List Value → Nat → Tr Value → Tr Value
  | [], _, t => t
  | v :: r, i, t => argTmps r (i + 1) (t.set i (some v))

def oneOf : List Value → Value
  | [v] => v
  | l => .tuple l.toArray

def resL (a : AAct) : List ResultVar → Sem (List Value)
  | [] => pure []
  | .tmp t :: r => do
    let l ← resL a r
    pure (a.at t :: l)
  | .cell c t :: r =>
    match a.at c with
    | .pointer (some ad) => do
      let v ← loadVar t ad
      let l ← resL a r
      pure (v :: l)
    | _ => stuck ""

def leaveA (P : Program) (fn : Func) (a : AAct) (s : AS) : Option (Value × AS) :=
  match a.defers with
  | [] =>
    match runA P (resL a fn.results.toList) s with
    | some (l, s1) => some (oneOf l, s1)
    | none => none
  | _ :: _ => none

def startA (fn : Func) (args : Array Value) : AAct :=
  { n := args.size + (fn.ntmps - args.size), tmps := argTmps args.toList 0 .leaf, defers := [] }

def bodyStep (P : Program) (code : CodeF) (fn : Func) (c : Code) (a : AAct) (s : AS) : Option (Value × AS) :=
  match code c a s with
  | some (.normal, a, s1) => leaveA P fn a s1
  | some (.ret, a, s1) => leaveA P fn a s1
  | _ => none

def callStep (P : Program) (prim : CallF) (code : CodeF) : CallF := fun f args s =>
  match prim f args s with
  | some r => some r
  | none =>
    match P.funcs[f]? with
    | some fn =>
      match fn.body with
      | some c => fA (startA fn args) fun a => fS s fun s => bodyStep P code fn c a s
      | none => none
    | none => none

def evBoth (P : Program) (prim : CallF) : Nat → CallF × CodeF
  | 0 => (fun _ _ _ => none, fun _ _ _ => none)
  | n + 1 => (callStep P prim (evBoth P prim n).2, codeStep P (evBoth P prim n).1 (evBoth P prim n).2)

end Go.Aw
