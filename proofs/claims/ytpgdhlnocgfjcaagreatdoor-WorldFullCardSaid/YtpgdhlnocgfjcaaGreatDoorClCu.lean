/- Drawn regions: the abstract run, in stages. -/
import Derived.Test.YtpgdhlnocgfjcaaGreatDoorClCt
set_option linter.unusedSimpArgs false
set_option linter.unusedVariables false
namespace Go.Cl

/-! ### Are two abstract values the same? -/
def sameI : Int → Int → Bool
  | .ofNat a, .ofNat b => Nat.beq a b
  | .negSucc a, .negSucc b => Nat.beq a b
  | _, _ => false
def sameB : Bool → Bool → Bool
  | true, true | false, false => true
  | _, _ => false
def sameL : List UInt8 → List UInt8 → Bool
  | [], [] => true
  | a :: x, b :: y => Nat.beq a.toNat b.toNat && sameL x y
  | _, _ => false
mutual
def sameV : AV → AV → Bool
  | .bool a, .bool b => sameB a b
  | .int k a, .int k' b => sameKind k k' && sameI a b
  | .str a, .str b => sameL a b
  | .nilp, .nilp | .nils, .nils | .nilm, .nilm | .nilf, .nilf | .nili, .nili | .e0, .e0 => true
  | .ptr i r o, .ptr i' r' o' => Nat.beq i i' && Nat.beq r r' && Nat.beq o o'
  | .sl i r n, .sl i' r' n' => Nat.beq i i' && Nat.beq r r' && Nat.beq n n'
  | .map i, .map i' => Nat.beq i i'
  | .fs sz rows, .fs sz' rows' => Nat.beq sz sz' && sameRs rows rows'
  | .fp row o, .fp row' o' => Nat.beq o o' && sameVs row row'
  | .fn f fs cs, .fn f' fs' cs' => Nat.beq f f' && sameVs fs fs' && sameVs cs cs'
  | .ifc t v, .ifc t' v' => Nat.beq t t' && sameV v v'
  | .agg cs, .agg cs' => sameVs cs cs'
  | .tup cs, .tup cs' => sameVs cs cs'
  | .any, .any => true
  | .sy a, .sy b => Nat.beq a b
  | .op, .op => true
  | .un, .un => true
  | _, _ => false
def sameVs : List AV → List AV → Bool
  | [], [] => true
  | a :: x, b :: y => sameV a b && sameVs x y
  | _, _ => false
def sameRs : List (List AV) → List (List AV) → Bool
  | [], [] => true
  | a :: x, b :: y => sameVs a b && sameRs x y
  | _, _ => false
end
def sameO : Option AO → Option AO → Bool
  | some (.rows sz rs), some (.rows sz' rs') => Nat.beq sz sz' && sameRs rs rs'
  | some (.map []), some (.map []) => true
  | _, _ => false

/-! ### What stands ahead of what -/
/-- Does an operation change what others may look at? -/
def isEff (o : Op) : Bool :=
  match o with
  | .move _ | .assign _ | .pick .. | .alloc _ | .box .. | .build .. | .buildSlice .. | .load .. | .nilCheck _ | .binOp .. | .unOp .. | .convert .. | .makeInterface .. | .makeFunc .. | .makeMap .. | .makeSlice ..
  | .slice .. | .fieldAddr .. | .field .. | .indexAddr .. | .index .. | .lookup .. | .extract .. | .typeAssert .. => false
  | .call c => match c.callee with
    | .builtin .len | .builtin .min | .builtin .max => false
    | _ => true
  | _ => true

def edgesM : List Edge → Nat
  | [] => 0
  | e :: es => bif Region.binds .any e then Nat.lor (Nat.shiftLeft 1 e.on) (edgesM es) else edgesM es
def depsM (o : Oper) : Nat := edgesM o.after.toList
def within (a b : Nat) : Bool := Nat.beq (Nat.land a b) a
def bit (C i : Nat) : Bool := Nat.beq (Nat.land (Nat.shiftRight C i) 1) 1
def plus (C i : Nat) : Nat := Nat.lor C (Nat.shiftLeft 1 i)

def edgesD (ds : List Nat) : List Edge → Nat
  | [] => 0
  | e :: es => bif Region.binds .any e then Nat.lor (Nat.lor (Nat.shiftLeft 1 e.on) (ds.getD e.on 0)) (edgesD ds es) else edgesD ds es
/-- All that stands ahead, of each. -/
def downs : List Oper → List Nat → List Nat
  | [], ds => ds
  | o :: os, ds => downs os (ds ++ [edgesD ds o.after.toList])
def edgesLt (i : Nat) (es : List Edge) : Bool := es.all fun e => !Region.binds .any e || Nat.ble (e.on + 1) i
def zops (ops : List Oper) : Nat → List (Oper × Nat) := fun k => match ops with
  | [] => []
  | o :: os => (o, k) :: zops os (k + 1)

/-- What an operation looks at. -/
def looksAt (ops : Array Oper) (o : Oper) : List Tmp := o.looksAt ops
def sepAll : List (Oper × Nat) → Bool
  | [] => true
  | (o, i) :: rest => edgesLt i o.after.toList && sepAll rest
def staticOk (ops : Array Oper) : Bool := sepAll (zops ops.toList 0)

/-! ### The stages -/
/-- An operation that is no effect, with its answer, and the name that it got. -/
structure Rec where
  i : Nat
  o : Oper
  y : AV
  r : Nat
  fresh : Bool

def evalR (E : Env) (ops : Array Oper) (o : Oper) (s : St) (nx : Nat) : R3 :=
  match wantedA ops s.T o with
  | some true => operA E o.op s.T s.H nx
  | some false => some (.tup [], s.H, nx)
  | none => none

/-- All that is left stands behind all that is taken: nothing taken is owed any more. -/
def barrier (C : Nat) : List (Oper × Nat) → List Nat → Bool
  | [], _ => true
  | (_, i) :: rest, d :: ds => (bit C i || within C d) && barrier C rest ds
  | _, [] => false
def dstIn (dst : Option Tmp) (l : List Tmp) : Bool := match dst with | some t => l.any (Nat.beq t) | none => false
def dstSame (a b : Option Tmp) : Bool := match a, b with | some t, some t' => Nat.beq t t' | _, _ => false
/-- May an operation be taken beside those that may be owed? -/
def beside (ops : Array Oper) (o : Oper) (d : Nat) : List Rec → Bool
  | [] => true
  | r :: rs => (bit d r.i || !(dstIn r.o.dst (looksAt ops o))) && !(dstSame r.o.dst o.dst) && !(dstIn o.dst (looksAt ops r.o)) && beside ops o d rs

def againOk (E : Env) (ops : Array Oper) (s : St) (r : Rec) : Bool :=
  match evalR E ops r.o s (bif r.fresh then r.r else s.nx) with
  | some (y, H', nx') => sameV y r.y && (bif r.fresh then Nat.beq nx' (r.r + 1) && sameO (H'.get r.r) (s.H.get r.r) else Nat.beq nx' s.nx)
  | none => false
def againAll (E : Env) (ops : Array Oper) (s : St) : List Rec → Bool
  | [] => true
  | r :: rs => againOk E ops s r && againAll E ops s rs

/-- What may be owed behind a barrier: nothing. -/
def dropA (E : Env) (ops : Array Oper) (zs : List (Oper × Nat)) (ds : List Nat) (C : Nat) (L : List Rec) (s : St) : Option (List Rec) :=
  match L with
  | [] => some []
  | q :: L => bif barrier C zs ds then (bif againAll E ops s (q :: L) then some [] else none) else some (q :: L)

def passA (E : Env) (nt : Nat) (ops : Array Oper) (zs : List (Oper × Nat)) (ds : List Nat) : List (Oper × Nat) → Nat → List Rec → St → Option (Nat × List Rec × St)
  | [], C, L, s => some (C, L, s)
  | (o, i) :: rest, C, L, s => bif bit C i || isEff o.op || !(within (depsM o) C) then passA E nt ops zs ds rest C L s else
    match dropA E ops zs ds C L s with
    | some L => match evalR E ops o s s.nx with
      | some (y, H', nx') => match putA nt s.T o.dst y with
        | some T' => bif beside ops o (ds.getD i 0) L && !(dstIn o.dst (looksAt ops o)) then passA E nt ops zs ds rest (plus C i) (⟨i, o, y, s.nx, Nat.beq nx' (s.nx + 1)⟩ :: L) ⟨T', H', nx'⟩ else none
        | none => none
      | none => none
    | none => none

def nextEff (C : Nat) : List (Oper × Nat) → Option (Oper × Nat)
  | [] => none
  | (o, i) :: rest => bif !(bit C i) && within (depsM o) C then some (o, i) else nextEff C rest
def blocked (C i : Nat) : List (Oper × Nat) → Bool
  | [] => true
  | (o, j) :: rest => (bit C j || Nat.beq i j || !(within (depsM o) C)) && blocked C i rest
def allIn (C : Nat) : List (Oper × Nat) → Bool
  | [] => true
  | (_, j) :: rest => bit C j && allIn C rest
def openL (d : Nat) : List Rec → List Rec
  | [] => []
  | r :: rs => bif bit d r.i then openL d rs else r :: openL d rs

def stageA (E : Env) (call : CallA) (nt : Nat) (ops : Array Oper) (zs : List (Oper × Nat)) (ds : List Nat) : Nat → Nat → List Rec → St → Option St
  | 0, _, _, _ => none
  | n + 1, C, L, s => match passA E nt ops zs ds zs C L s with
    | some (C1, L1, s1) => bif againAll E ops s1 L1 then (match nextEff C1 zs with
      | none => bif allIn C1 zs then some s1 else none
      | some (o, i) => bif blocked C1 i zs && beside ops o (ds.getD i 0) (openL (ds.getD i 0) (bif barrier C1 zs ds then [] else L1)) then (match opA E call nt ops o s1 with
        | some s2 => stageA E call nt ops zs ds n (plus C1 i) (openL (ds.getD i 0) (bif barrier C1 zs ds then [] else L1)) s2
        | none => none) else none) else none
    | none => none

def drawA (E : Env) : DrawA := fun call nt ops s =>
  bif staticOk ops then stageA E call nt ops (zops ops.toList 0) (downs ops.toList []) (ops.size + 1) 0 [] s else none
end Go.Cl
