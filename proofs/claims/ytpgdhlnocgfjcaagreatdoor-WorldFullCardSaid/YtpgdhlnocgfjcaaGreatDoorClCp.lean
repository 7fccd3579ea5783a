/- The abstract machine: what an operation, a region, a body, a call comes to. -/
import Derived.Test.YtpgdhlnocgfjcaaGreatDoorClCo
set_option linter.unusedSimpArgs false
set_option linter.unusedVariables false
namespace Go.Cl

/-- Temporaries, objects, the next name. -/
structure St where
  T : Tr AV
  H : Heap
  nx : Nat

def getT (T : Tr AV) (t : Nat) : AV := match T.get t with | some x => x | none => .any

def evalA (T : Tr AV) : Operand → AV
  | .tmp t => getT T t
  | .const v => AV.of v
  | .func f => .fn f [] []
  | .global _ => .any

def notIfc : TD → Bool
  | .ifc => false
  | _ => true

def newRow1 (sz : Nat) (row : List AV) (H : Heap) (nx : Nat) : R3 :=
  bif Nat.ble 1 sz && Nat.beq row.length sz && row.all AV.leaf then some (.ptr nx 0 0, H.set nx (.rows sz [row]), nx + 1) else none

def keep (x : Option AV) (H : Heap) (nx : Nat) : R3 := match x with | some x => some (x, H, nx) | none => none

/-- A builtin's answer. -/
def builtinA (E : Env) (b : Builtin) (ts : Array TypeId) (args : List AV) (H : Heap) (nx : Nat) : R3 :=
  match b, ts.toList, args with
  | .append, [t, t2], [s, x] => appendA E t t2 s x H nx
  | .copy, t :: _, [d, s] => copyA E t d s H nx
  | .clear, t :: _, [x] => clearA E t x H nx
  | .delete, t :: _, [m, k] => (match mapDelA E t m k H with | some H' => some (.tup [], H', nx) | none => none)
  | .len, t :: _, [x] => keep (lenOpA E t x H) H nx
  | .min, _, x :: rest => keep (minA x rest) H nx
  | .max, _, x :: rest => keep (maxA x rest) H nx
  | _, _, _ => none

/-- An operation that calls nothing. -/
def operA (E : Env) (o : Op) (T : Tr AV) (H : Heap) (nx : Nat) : R3 :=
  match o with
  | .move x => some (evalA T x, H, nx)
  | .assign x => some (evalA T x, H, nx)
  | .pick c a b => (match evalA T c with | .bool true => some (evalA T a, H, nx) | .bool false => some (evalA T b, H, nx) | _ => none)
  | .alloc t => (match E.ty.get t with | some ti => newRow1 ti.size ti.zero H nx | none => none)
  | .box t x => (match E.ty.get t with | some ti => newRow1 ti.size (evalA T x).cells H nx | none => none)
  | .build t parts => keep (buildA E t (parts.toList.map fun p => (p.1, evalA T p.2))) H nx
  | .buildSlice t n parts => buildSliceA E t n (parts.toList.map fun p => (p.1, evalA T p.2)) H nx
  | .load t a => (match E.ty.get t with | some ti => keep (loadA ti H (evalA T a)) H nx | none => none)
  | .store t a x => (match E.ty.get t with | some ti => (match storeA ti H (evalA T a) (evalA T x) with | some H' => some (.tup [], H', nx) | none => none) | none => none)
  | .nilCheck x => (match evalA T x with | .ptr i r o => some (.ptr i r o, H, nx) | .fp row o => some (.fp row o, H, nx) | .ifc t v => some (.ifc t v, H, nx) | .fn f fs c => some (.fn f fs c, H, nx) | _ => none)
  | .binOp op t x y _ => (match evalA T x, evalA T y with
    | .agg xs, .agg ys => (match E.eq.get t with | some ds => (match leavesEq ds xs ys with | some b => keep (eqB op b) H nx | none => none) | none => none)
    | x, y => (match E.ty.get t with | some ti => keep (binA ti.td op x y) H nx | none => none))
  | .unOp op _ x => (match op, evalA T x with | .not, .bool b => some (.bool (!b), H, nx) | .neg, .int k n => some (.int k (wrapA k (0 - n)), H, nx) | _, _ => none)
  | .convert s d x => convA E s d (evalA T x) H nx
  | .makeInterface t x => (match E.ty.get t with | some ti => bif notIfc ti.td then some (.ifc t (evalA T x), H, nx) else none | none => none)
  | .makeFunc (.func f) first caps => some (.fn f (first.toList.map (evalA T)) (caps.toList.map (evalA T)), H, nx)
  | .makeMap t r => (match r with | none => some (.map nx, H.set nx (.map []), nx + 1) | some x => (match E.ty.get t, evalA T x with | some ti, .int _ _ => (match ti.td with | .map _ _ => some (.map nx, H.set nx (.map []), nx + 1) | _ => none) | _, _ => none))
  | .makeSlice t l c => makeSliceA E t (evalA T l) (evalA T c) H nx
  | .slice t x lo hi mx => keep (sliceA E t (evalA T x) (lo.map (evalA T)) (hi.map (evalA T)) (mx.map (evalA T)) H) H nx
  | .fieldAddr t x f => keep (fieldAddrA E t (evalA T x) f) H nx
  | .field t x f => keep (fieldA E t (evalA T x) f) H nx
  | .indexAddr t x i => keep (indexAddrA E t (evalA T x) (evalA T i) H) H nx
  | .index t x i => keep (indexA E t (evalA T x) (evalA T i)) H nx
  | .lookup t m k ok => keep (lookupA E t (evalA T m) (evalA T k) ok H) H nx
  | .mapUpdate t m k v => (match mapPutA E t (evalA T m) (evalA T k) (evalA T v) H with | some H' => some (.tup [], H', nx) | none => none)
  | .insert t m k v => (match mapPutA E t (evalA T m) (evalA T k) (evalA T v) H with | some H' => some (.tup [], H', nx) | none => none)
  | .typeAssert x _ t ok => (match E.ty.get t, evalA T x with | some ti, .ifc t' v => bif notIfc ti.td && Nat.beq t' t then some (bif ok then .tup [v, .bool true] else v, H, nx) else none | _, _ => none)
  | .extract t i => (match evalA T t with | .tup vs => keep vs[i]? H nx | _ => none)
  | .range t x => (match E.ty.get t, evalA T x with
    | some ti, .map i => (match ti.td, H.get i with | .map _ _, some (.map _) => some (.it nx, H.set nx (.mit i), nx + 1) | _, _ => none)
    | _, _ => none)
  | .next x false => (match evalA T x with
    | .it i => (match H.get i with
      | some (.mit m) => (match H.get m with | some (.map []) => some (.tup [.bool false], H, nx) | _ => none)
      | _ => none)
    | _ => none)
  | .call c => (match c.callee with | .builtin b => builtinA E b c.argTypes (c.args.toList.map (evalA T)) H nx | _ => none)
  | _ => none

/-- Whom does an operation call, and with what? -/
def callee (o : Op) (T : Tr AV) : Option (Nat × List AV) :=
  match o with
  | .call c => match c.callee with
    | .value f => match evalA T f with
      | .fn g first caps => some (g, first ++ c.args.toList.map (evalA T) ++ caps)
      | _ => none
    | _ => none
  | _ => none

/-- Is an operation wanted? -/
def wantedA (ops : Array Oper) (T : Tr AV) (o : Oper) : Option Bool :=
  match o.guard with
  | none => some true
  | some (j, want) => match (ops[j]?).bind (·.dst) with
    | some d => match T.get d with
      | some (.bool b) => some (b == want)
      | some (.tup []) => some false
      | _ => none
    | none => some false

def putA (nt : Nat) (T : Tr AV) (dst : Option Nat) (x : AV) : Option (Tr AV) :=
  match dst with
  | none => some T
  | some d => bif Nat.ble (d + 1) nt then some (T.set d x) else none

abbrev CallA := Nat → List AV → Heap → Nat → R3

/-- One operation of a region. -/
def opA (E : Env) (call : CallA) (nt : Nat) (ops : Array Oper) (o : Oper) (s : St) : Option St :=
  match wantedA ops s.T o with
  | some true => match (match callee o.op s.T with
      | some (f, args) => call f args s.H s.nx
      | none => operA E o.op s.T s.H s.nx) with
    | some (x, H', nx') => match putA nt s.T o.dst x with
      | some T' => some ⟨T', H', nx'⟩
      | none => none
    | none => none
  | some false => match putA nt s.T o.dst (.tup []) with
    | some T' => some ⟨T', s.H, s.nx⟩
    | none => none
  | none => none

def opsA (E : Env) (call : CallA) (nt : Nat) (ops : Array Oper) : List Oper → St → Option St
  | [], s => some s
  | o :: rest, s => match opA E call nt ops o s with
    | some s' => opsA E call nt ops rest s'
    | none => none

inductive ExA where
  | normal | exit (id : Nat) | ret

/-- A body, step by step; 'fuel' bounds the depth. -/
def codeA (E : Env) (call : CallA) (draw : Nat → Array Oper → St → Option St) (nt : Nat) : Nat → Code → St → Option (ExA × St)
  | 0, _, _ => none
  | n + 1, c, s => match c with
    | .skip => some (.normal, s)
    | .ret => some (.ret, s)
    | .exit id => some (.exit id, s)
    | .region _ ops false => (match opsA E call nt ops ops.toList s with | some s' => some (.normal, s') | none => none)
    | .region _ ops true => (match draw nt ops s with | some s' => some (.normal, s') | none => none)
    | .seq a b => (match codeA E call draw nt n a s with
      | some (.normal, s') => codeA E call draw nt n b s'
      | r => r)
    | .cond x a b => (match evalA s.T x with
      | .bool true => codeA E call draw nt n a s
      | .bool false => codeA E call draw nt n b s
      | _ => none)
    | .block id b => (match codeA E call draw nt n b s with
      | some (.exit id', s') => bif Nat.beq id' id then some (.normal, s') else some (.exit id', s')
      | r => r)
    | .loop b => (match codeA E call draw nt n b s with
      | some (.normal, s') => codeA E call draw nt n (.loop b) s'
      | r => r)
    | _ => none

def resultA (E : Env) (s : St) : ResultVar → Option AV
  | .tmp t => some (getT s.T t)
  | .cell a t => match E.ty.get t with | some ti => loadA ti s.H (getT s.T a) | none => none

def resultsA (E : Env) (s : St) : List ResultVar → Option (List AV)
  | [] => some []
  | r :: rest => match resultA E s r with
    | some x => (match resultsA E s rest with | some xs => some (x :: xs) | none => none)
    | none => none

def argsT : List AV → Nat → Tr AV → Tr AV
  | [], _, T => T
  | x :: xs, i, T => argsT xs (i + 1) (T.set i x)

end Go.Cl
