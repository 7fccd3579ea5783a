/- What each operation does to abstract values and heaps. -/
import Derived.Test.YtpgdhlnocgfjcaaGreatDoorClCb
set_option linter.unusedSimpArgs false
set_option linter.unusedVariables false
namespace Go.Cl

/-! ### Types -/
inductive TD where
  | bool | int (k : IntKind) | str | ptr (e : Nat) | sl (e : Nat) | arr (n e : Nat) | st (fs : List (Nat × Nat)) | map (k e : Nat) | fn | ifc | oth

structure TI where
  size : Nat
  bytes : Nat
  zero : List AV
  td : TD
  zv : Option AV

def tdOf : TypeDesc → TD
  | .bool => .bool
  | .int k => .int k
  | .string => .str
  | .pointer e => .ptr e
  | .slice e => .sl e
  | .array n e => .arr n e
  | .struct fs => .st (fs.toList.map fun f => (f.offset, f.type))
  | .map k e => .map k e
  | .func .. => .fn
  | .interface _ => .ifc
  | _ => .oth

/-- A plain cell's abstract value. -/
def AV.of1 : Value → AV
  | .bool b => .bool b
  | .int k n => .int k n
  | .string s => .str s.data.toList
  | .pointer none => .nilp
  | .slice none 0 0 => .nils
  | .map none => .nilm
  | .nilFunc => .nilf
  | .nilIface => .nili
  | _ => .any
def AV.of : Value → AV
  | .agg cs => .agg (cs.toList.map AV.of1)
  | v => AV.of1 v

def tiOf (P : Program) (t : Nat) : Option TI :=
  match P.info? t, P.underlying t with
  | some i, some d => some ⟨i.size, i.bytes, (match i.zero with | some z => z.cells.toList.map AV.of1 | none => []), tdOf d, i.zero.map AV.of⟩
  | _, _ => none

def TI.isAgg (ti : TI) : Bool := match ti.td with | .st _ | .arr _ _ => true | _ => false

structure Env where
  ty : Tr TI
  fn : Tr Func
  eq : Tr (List TD)

/-- A type of one cell that is compared by its bits. -/
def leafTD (P : Program) (t : Nat) : Option TD := match P.underlying t with | some .bool => some .bool | some (.int k) => some (.int k) | some .string => some .str | _ => none
def fieldTDs (P : Program) : List Field → Nat → Option (List TD)
  | [], _ => some []
  | f :: fs, i => bif f.name != "_" && f.offset == i then (match leafTD P f.type, fieldTDs P fs (i + 1) with | some d, some ds => some (d :: ds) | _, _ => none) else none
/-- A struct of such fields. -/
def eqOf (P : Program) (t : Nat) : Option (List TD) :=
  match P.underlying t with
  | some (.struct fs) => bif !P.eqGuardType P.depth t && !P.stoodInHeld t then fieldTDs P fs.toList 0 else none
  | _ => none

structure Env.Ok (E : Env) (P : Program) : Prop where
  ty : ∀ t i, E.ty.get t = some i → tiOf P t = some i
  fn : ∀ f g, E.fn.get f = some g → P.funcs[f]? = some g ∧ (g.name == "runtime.NumGoroutine") = false
  eq : ∀ t ds, E.eq.get t = some ds → eqOf P t = some ds

/-! ### Plain helpers -/
def AV.cells : AV → List AV
  | .agg cs => cs
  | v => [v]
def AV.leaf : AV → Bool
  | .agg _ | .tup _ | .any => false
  | _ => true

def asI : AV → Option Int
  | .int _ n => some n
  | _ => none

def takeAt (l : List AV) (o n : Nat) : Option (List AV) := bif Nat.ble (o + n) l.length then some ((l.drop o).take n) else none
def splice {α : Type} (l : List α) (o : Nat) (cs : List α) : List α := l.take o ++ cs ++ l.drop (o + cs.length)

def part (ti : TI) (row : List AV) (o : Nat) : Option AV :=
  bif ti.isAgg then (takeAt row o ti.size).map .agg else row[o]?

def loadA (ti : TI) (H : Heap) : AV → Option AV
  | .ptr i r o => match H.get i with
    | some (.rows _ rs) => match rs[r]? with
      | some row => part ti row o
      | none => none
    | _ => none
  | .fp row o => part ti row o
  | _ => none

def storeA (ti : TI) (H : Heap) (a x : AV) : Option Heap :=
  match a with
  | .ptr i r o => match H.get i with
    | some (.rows sz rs) => match rs[r]? with
      | some row => bif Nat.beq x.cells.length ti.size && x.cells.all AV.leaf && Nat.ble (o + ti.size) row.length then some (H.set i (.rows sz (rs.set r (splice row o x.cells)))) else none
      | none => none
    | _ => none
  | _ => none

/-- Rows that a slice, or a string, reads as. -/
def rowsOf (sz : Nat) (H : Heap) : AV → Option (List (List AV))
  | .nils | .e0 => some []
  | .str l => bif Nat.beq sz 1 then some (l.map fun b => [.int .u8 b.toNat]) else none
  | .fs sz' rows => bif Nat.beq sz sz' then some rows else none
  | .sl i r n => match H.get i with
    | some (.rows sz' rs) => bif Nat.beq sz sz' && Nat.ble (r + n) rs.length then some ((rs.drop r).take n) else none
    | _ => none
  | _ => none

def lenA (H : Heap) : AV → Option Nat
  | .nils | .e0 | .nilm => some 0
  | .str l => some l.length
  | .fs _ rows => some rows.length
  | .sl _ _ n => some n
  | .map i => match H.get i with | some (.map es) => some es.length | _ => none
  | _ => none

/-! ### Numbers -/
def wrapA (k : IntKind) (n : Int) : Int :=
  match k, n with
  | .i64, .ofNat m => bif Nat.ble m 9223372036854775807 then .ofNat m else k.wrap n
  | .i64, .negSucc m => bif Nat.ble m 9223372036854775807 then .negSucc m else k.wrap n
  | .u8, .ofNat m => .ofNat (m % 256)
  | .u32, .ofNat m => .ofNat (m % 4294967296)
  | .u64, .ofNat m => .ofNat (m % 18446744073709551616)
  | _, _ => k.wrap n

def bitsA (op : BinOp) (k : IntKind) (x y : Int) : Option AV :=
  let a := BitVec.ofInt k.bits x
  let b := BitVec.ofInt k.bits y
  match op with
  | .and => some (.int k (k.wrap (a &&& b).toNat))
  | .or => some (.int k (k.wrap (a ||| b).toNat))
  | .xor => some (.int k (k.wrap (a ^^^ b).toNat))
  | .andNot => some (.int k (k.wrap (a &&& ~~~b).toNat))
  | _ => none

def ibin (op : BinOp) (k : IntKind) (a b : Int) : Option AV :=
  match op with
  | .add => some (.int k (wrapA k (a + b)))
  | .sub => some (.int k (wrapA k (a - b)))
  | .mul => some (.int k (wrapA k (a * b)))
  | .quo => bif b == 0 then none else some (.int k (wrapA k (a.tdiv b)))
  | .rem => bif b == 0 then none else some (.int k (a.tmod b))
  | .eql => some (.bool (a == b))
  | .neq => some (.bool (a != b))
  | .lss => some (.bool (decide (a < b)))
  | .leq => some (.bool (decide (a ≤ b)))
  | .gtr => some (.bool (decide (a > b)))
  | .geq => some (.bool (decide (a ≥ b)))
  | .and | .or | .xor | .andNot => bitsA op k a b
  | .shl => bif decide (b < 0) then none else some (.int k (wrapA k (a * 2 ^ (min b.toNat k.bits))))
  | .shr => bif decide (b < 0) then none else some (.int k (a.fdiv (2 ^ (min b.toNat k.bits))))

def eqB (op : BinOp) (b : Bool) : Option AV :=
  match op with
  | .eql => some (.bool b)
  | .neq => some (.bool (!b))
  | _ => none

/-- Two plain leaves: are they the same? -/
def leafEq : TD → AV → AV → Option Bool
  | .bool, .bool a, .bool b => some (a == b)
  | .int _, .int k a, .int k' b => bif sameKind k k' then some (a == b) else none
  | .str, .str a, .str b => some (a == b)
  | _, _, _ => none
def leavesEq : List TD → List AV → List AV → Option Bool
  | [], [], [] => some true
  | d :: ds, x :: xs, y :: ys => match leafEq d x y with
    | some true => leavesEq ds xs ys
    | some false => some false
    | none => none
  | _, _, _ => none

def strOp (op : BinOp) (a b : List UInt8) : Option AV :=
  match op with
  | .add => bif Nat.ble (a.length + b.length) 9223372036854775807 then some (.str (a ++ b)) else none
  | .eql => some (.bool (a == b))
  | .neq => some (.bool (!(a == b)))
  | .lss => some (.bool (Op.bytesLess a b))
  | .leq => some (.bool (Op.bytesLess a b || a == b))
  | .gtr => some (.bool (!(Op.bytesLess a b || a == b)))
  | .geq => some (.bool (!Op.bytesLess a b))
  | _ => none

/-- Is a value nil, where it is known? -/
def isNil : TD → AV → Option Bool
  | .ptr _, .nilp | .sl _, .nils | .map _ _, .nilm | .fn, .nilf => some true
  | .ptr _, .ptr .. | .ptr _, .fp .. | .sl _, .sl .. | .map _ _, .map _ | .fn, .fn .. => some false
  | .sl _, .fs _ (_ :: _) => some false
  | _, _ => none
def isNilLit : TD → AV → Bool
  | .ptr _, .nilp | .sl _, .nils | .map _ _, .nilm | .fn, .nilf => true
  | _, _ => false

def binA (td : TD) (op : BinOp) (x y : AV) : Option AV :=
  match x, y with
  | .int k a, .int k' b => match op with
    | .shl | .shr => ibin op k a b
    | _ => bif sameKind k k' then ibin op k a b else none
  | .bool a, .bool b => match td with
    | .bool => eqB op (a == b)
    | _ => none
  | .str a, .str b => strOp op a b
  | .sy c, .int .i64 (.ofNat n) => (match op with
    | .lss => bif Nat.ble (c + 400) n then some (.bool true) else bif Nat.ble n c then some (.bool false) else none
    | .geq => bif Nat.ble (c + 400) n then some (.bool false) else bif Nat.ble n c then some (.bool true) else none
    | .add => bif Nat.ble (c + n) 1000000 then some (.sy (c + n)) else none
    | _ => none)
  | x, y => bif isNilLit td y then (isNil td x).bind (eqB op) else bif isNilLit td x then (isNil td y).bind (eqB op) else none

/-! ### The operations -/
abbrev R3 := Option (AV × Heap × Nat)

/-- A new object of rows. -/
def newRows (sz : Nat) (rs : List (List AV)) (v : Nat → AV) (H : Heap) (nx : Nat) : R3 :=
  bif Nat.ble 1 sz && rs.all (fun r => Nat.beq r.length sz && r.all AV.leaf) then some (v nx, H.set nx (.rows sz rs), nx + 1) else none

def fillA (place : Nat → Option (Nat × Nat)) (cells : List AV) : List (Nat × AV) → Option (List AV)
  | [] => some cells
  | (i, v) :: rest => match place i with
    | none => none
    | some (off, size) => bif Nat.beq v.cells.length size && Nat.ble (off + size) cells.length then fillA place (splice cells off v.cells) rest else none

def fillRows (sz : Nat) (rows : List (List AV)) : List (Nat × AV) → Option (List (List AV))
  | [] => some rows
  | (i, v) :: rest => bif Nat.beq v.cells.length sz && v.cells.all AV.leaf && Nat.ble (i + 1) rows.length then fillRows sz (rows.set i v.cells) rest else none

section
variable (E : Env)

def placeOf (fs : List (Nat × Nat)) (i : Nat) : Option (Nat × Nat) :=
  match fs[i]? with
  | some p => (match E.ty.get p.2 with | some fi => some (p.1, fi.size) | none => none)
  | none => none

def buildA (t : Nat) (parts : List (Nat × AV)) : Option AV :=
  match E.ty.get t with
  | some ti => match ti.td with
    | .st fs => bif Nat.beq ti.zero.length ti.size && Nat.ble 1 ti.size && (fs.all fun f => (E.ty.get f.2).isSome) && parts.all fun p => p.2.cells.all AV.leaf then
        (fillA (placeOf E fs) ti.zero parts).map .agg else none
    | .arr _ e => match E.ty.get e with
      | some ei => bif Nat.beq ti.zero.length ti.size && Nat.ble 1 ti.size && parts.all fun p => p.2.cells.all AV.leaf then (fillA (fun i => some (i * ei.size, ei.size)) ti.zero parts).map .agg else none
      | none => none
    | _ => none
  | none => none

def buildSliceA (t n : Nat) (parts : List (Nat × AV)) (H : Heap) (nx : Nat) : R3 :=
  match E.ty.get t with
  | some ti => match ti.td with
    | .sl e => match E.ty.get e with
      | some ei => bif Nat.ble (n * ei.size) 16777216 && Nat.beq ei.zero.length ei.size then
          (match fillRows ei.size (List.replicate n ei.zero) parts with
            | some rows => newRows ei.size rows (fun i => .sl i 0 n) H nx
            | none => none)
        else none
      | none => none
    | _ => none
  | none => none

/-- A bound, or what stands for none. -/
def boundA (d : Nat) : Option AV → Option Nat
  | none => some d
  | some (.int _ (.ofNat n)) => some n
  | _ => none

/-- Bounds that are asked for: low, high, of a string or a slice of a length and so many that may be taken. -/
def sliceA (t : Nat) (x : AV) (lo hi mx : Option AV) (H : Heap) : Option AV :=
  match E.ty.get t, boundA 0 lo with
  | some ti, some l => match ti.td, x, mx with
    | .str, .str s, none => match boundA s.length hi with
      | some h => bif Nat.ble l h && Nat.ble h s.length then some (.str ((s.drop l).take (h - l))) else none
      | none => none
    | .sl e, .nils, none => match boundA 0 hi, E.ty.get e with
      | some h, some _ => bif Nat.beq l 0 && Nat.beq h 0 then some .nils else none
      | _, _ => none
    | .sl e, .fs sz rows, none => match boundA rows.length hi, E.ty.get e with
      | some h, some ei => bif Nat.ble l h && Nat.ble h rows.length && Nat.beq ei.size sz then some (.fs sz ((rows.drop l).take (h - l))) else none
      | _, _ => none
    | .sl e, .sl i r n, none => match boundA n hi, H.get i, E.ty.get e with
      | some h, some (.rows sz rs), some ei => bif Nat.ble l h && Nat.ble (r + h) rs.length && Nat.beq ei.size sz then (bif Nat.beq l h && !(Nat.beq l 0) then some (.fs sz []) else some (.sl i (r + l) (h - l))) else none
      | _, _, _ => none
    | .sl e, x, some m => match hi, boundA 0 hi, boundA 0 (some m), E.ty.get e with
      | some _, some h, some m, some _ => bif Nat.beq l 0 && Nat.beq h 0 && Nat.beq m 0 then (match x with
        | .nils => some .nils
        | .fs _ _ | .sl _ _ _ | .e0 => some .e0
        | _ => none) else none
      | _, _, _, _ => none
    | _, _, _ => none
  | _, _ => none

def indexAddrA (t : Nat) (x ix : AV) (H : Heap) : Option AV :=
  match E.ty.get t, ix with
  | some ti, .int _ (.ofNat i) => match ti.td with
    | .arr n e => match E.ty.get e with
      | some ei => bif Nat.ble (i + 1) n then (match x with
        | .ptr j r o => some (.ptr j r (o + i * ei.size))
        | .fp row o => bif Nat.ble (o + i * ei.size) row.length then some (.fp row (o + i * ei.size)) else none
        | _ => none) else none
      | none => none
    | .sl e => match E.ty.get e with
      | some ei => match x with
        | .sl j r n => bif Nat.ble (i + 1) n then (match H.get j with
          | some (.rows sz _) => bif Nat.beq sz ei.size then some (.ptr j (r + i) 0) else none
          | _ => none) else none
        | .fs sz rows => bif Nat.beq sz ei.size then (match rows[i]? with | some row => some (.fp row 0) | none => none) else none
        | _ => none
      | none => none
    | _ => none
  | _, _ => none

def indexA (t : Nat) (x ix : AV) : Option AV :=
  match E.ty.get t, ix with
  | some ti, .int _ (.ofNat i) => match ti.td, x with
    | .str, .str s => match s[i]? with
      | some b => some (.int .u8 b.toNat)
      | none => none
    | .arr n e, .agg cs => match E.ty.get e with
      | some ei => bif Nat.ble (i + 1) n then part ei cs (i * ei.size) else none
      | none => none
    | _, _ => none
  | _, _ => none

def fieldOf (t f : Nat) : Option (Nat × TI) :=
  match E.ty.get t with
  | some ti => match ti.td with
    | .st fs => match fs[f]? with
      | some (off, ft) => match E.ty.get ft with
        | some fi => some (off, fi)
        | none => none
      | none => none
    | _ => none
  | none => none

def fieldAddrA (t : Nat) (x : AV) (f : Nat) : Option AV :=
  match fieldOf E t f with
  | some (off, fi) => bif Nat.beq fi.size 0 then none else (match x with
    | .ptr i r o => some (.ptr i r (o + off))
    | .fp row o => bif Nat.ble (o + off) row.length then some (.fp row (o + off)) else none
    | _ => none)
  | none => none

def fieldA (t : Nat) (x : AV) (f : Nat) : Option AV :=
  match fieldOf E t f, x with
  | some (off, fi), .agg cs => part fi cs off
  | _, _ => none

def bytesOfRows : List (List AV) → Option (List UInt8)
  | [] => some []
  | [.int .u8 (.ofNat n)] :: rest => match bytesOfRows rest with
    | some l => some (UInt8.ofNat n :: l)
    | none => none
  | _ => none

def convA (src dst : Nat) (x : AV) (H : Heap) (nx : Nat) : R3 :=
  match E.ty.get src, E.ty.get dst with
  | some si, some di => match di.td, x with
    | .int k, .int _ n => some (.int k (wrapA k n), H, nx)
    | .str, .str l => some (.str l, H, nx)
    | .str, x => match si.td with
      | .sl e => match E.ty.get e with
        | some ei => match ei.td, rowsOf 1 H x with
          | .int .u8, some rows => match bytesOfRows rows with
            | some l => some (.str l, H, nx)
            | none => none
          | _, _ => none
        | none => none
      | _ => none
    | .sl e, .str l => match E.ty.get e with
      | some ei => match ei.td with
        | .int .u8 => bif Nat.ble l.length 1099511627776 then newRows 1 (l.map fun b => [.int .u8 b.toNat]) (fun i => .sl i 0 l.length) H nx else none
        | _ => none
      | none => none
    | .sl e, .sl i r n => match E.ty.get e, H.get i with
      | some ei, some (.rows _ _) => match ei.td with
        | .int .u8 => bif Nat.beq src dst then some (.sl i r n, H, nx) else none
        | _ => none
      | _, _ => none
    | _, _ => none
  | _, _ => none

def makeSliceA (t : Nat) (l c : AV) (H : Heap) (nx : Nat) : R3 :=
  match E.ty.get t, l, c with
  | some ti, .int _ (.ofNat l), .int _ (.ofNat c) => match ti.td with
    | .sl e => match E.ty.get e with
      | some ei => bif Nat.ble l c && Nat.ble (c * ei.bytes) 1099511627776 && Nat.ble c 1099511627776 && Nat.beq ei.zero.length ei.size then newRows ei.size (List.replicate c ei.zero) (fun i => .sl i 0 l) H nx else none
      | none => none
    | _ => none
  | _, _, _ => none

def isSeq (t : Nat) : Bool :=
  match E.ty.get t with
  | some ti => (match ti.td with | .sl _ | .str => true | _ => false)
  | none => false

def appendA (t t2 : Nat) (s x : AV) (H : Heap) (nx : Nat) : R3 :=
  match E.ty.get t with
  | some ti => match ti.td with
    | .sl e => match E.ty.get e with
      | some ei => match rowsOf ei.size H x, rowsOf ei.size H s with
        | some new, some old => bif isSeq E t2 && Nat.ble ((old.length + new.length) * ei.bytes) 1099511627776 && Nat.ble 1 ei.bytes && Nat.ble ei.bytes 65536 && Nat.beq ei.zero.length ei.size then (match new with
            | [] => (match s with | .str _ => none | _ => some (s, H, nx))
            | _ :: _ => match s with
              | .nils | .e0 => newRows ei.size new (fun i => .sl i 0 new.length) H nx
              | .sl i _ _ => newRows ei.size (old ++ new) (fun i => .sl i 0 (old.length + new.length)) (H.del i) nx
              | _ => none) else none
        | _, _ => none
      | none => none
    | _ => none
  | none => none

def copyA (t : Nat) (d s : AV) (H : Heap) (nx : Nat) : R3 :=
  match E.ty.get t with
  | some ti => match ti.td with
    | .sl e => match E.ty.get e with
      | some ei => match rowsOf ei.size H s, d with
        | some src, .sl i r n => match H.get i with
          | some (.rows sz rs) => bif Nat.beq sz ei.size && Nat.ble (r + n) rs.length && (src.all fun row => Nat.beq row.length sz && row.all AV.leaf) then
              some (.int .i64 (min src.length n : Nat), H.set i (.rows sz (splice rs r (src.take n))), nx) else none
          | _ => none
        | some src, .nils | some src, .e0 => some (.int .i64 0, H, nx)
        | _, _ => none
      | none => none
    | _ => none
  | none => none

def clearA (t : Nat) (x : AV) (H : Heap) (nx : Nat) : R3 :=
  match E.ty.get t with
  | some ti => match ti.td, x with
    | .sl e, .sl i r n => match E.ty.get e, H.get i with
      | some ei, some (.rows sz rs) => bif Nat.beq sz ei.size && Nat.ble (r + n) rs.length && Nat.beq ei.zero.length sz && ei.zero.all AV.leaf then some (.tup [], H.set i (.rows sz (splice rs r (List.replicate n ei.zero))), nx) else none
      | _, _ => none
    | .sl _, .nils | .sl _, .e0 | .sl _, .fs _ [] => some (.tup [], H, nx)
    | _, _ => none
  | none => none

/-! #### Maps -/
def keyOk (td : TD) (k : AV) : Bool :=
  match td, k with
  | .int _, .int _ _ => true
  | .str, .str _ => true
  | _, _ => false
def sameSort (k k2 : AV) : Bool :=
  match k, k2 with
  | .int a _, .int b _ => sameKind a b
  | .str _, .str _ => true
  | _, _ => false
def keysOk (td : TD) (es : List (AV × AV)) (k : AV) : Bool :=
  keyOk td k && es.all fun e => sameSort k e.1
def findE (k : AV) : List (AV × AV) → Option AV
  | [] => none
  | e :: es => bif keyEq k e.1 then some e.2 else findE k es
def putE (k v : AV) : List (AV × AV) → List (AV × AV)
  | [] => [(k, v)]
  | e :: es => bif keyEq k e.1 then (k, v) :: es else e :: putE k v es
def hasE (k : AV) (es : List (AV × AV)) : Bool := es.any fun e => keyEq k e.1
def delE (k : AV) : List (AV × AV) → List (AV × AV)
  | [] => []
  | e :: es => bif keyEq k e.1 then es else e :: delE k es


def lookupA (t : Nat) (m k : AV) (ok : Bool) (H : Heap) : Option AV :=
  match E.ty.get t with
  | some ti => match ti.td with
    | .map kt et => match E.ty.get kt, E.ty.get et with
      | some ki, some ei => match (match m with
          | .nilm => some []
          | .map i => (match H.get i with | some (.map es) => some es | _ => none)
          | _ => none : Option (List (AV × AV))) with
        | some es => bif keysOk ki.td es k then (match findE k es with
            | some v => some (bif ok then .tup [v, .bool true] else v)
            | none => match ei.zv with
              | some z => some (bif ok then .tup [z, .bool false] else z)
              | none => none) else none
        | none => none
      | _, _ => none
    | _ => none
  | none => none

def mapPutA (t : Nat) (m k v : AV) (H : Heap) : Option Heap :=
  match E.ty.get t, m with
  | some ti, .map i => match ti.td, H.get i with
    | .map kt _, some (.map es) => match E.ty.get kt with
      | some ki => bif keysOk ki.td es k then some (H.set i (.map (putE k v es))) else none
      | none => none
    | _, _ => none
  | _, _ => none

def mapDelA (t : Nat) (m k : AV) (H : Heap) : Option Heap :=
  match E.ty.get t, m with
  | some ti, .map i => match ti.td, H.get i with
    | .map kt _, some (.map es) => match E.ty.get kt with
      | some ki => bif keysOk ki.td es k then some (H.set i (.map (delE k es))) else none
      | none => none
    | _, _ => none
  | _, _ => none

end
end Go.Cl
