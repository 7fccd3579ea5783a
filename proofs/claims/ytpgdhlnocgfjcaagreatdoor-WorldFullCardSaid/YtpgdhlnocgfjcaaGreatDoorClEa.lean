/- A fast form of the abstract machine, for the kernel: by continuations, values made ready, paths in tries found once. -/
import Derived.Test.YtpgdhlnocgfjcaaGreatDoorClDb
set_option linter.unusedSimpArgs false
set_option linter.unusedVariables false
namespace Go.Cl

/-! ### Paths -/
inductive Pa where
  | e | l (p : Pa) | r (p : Pa) | bad
def paOf : Nat → Nat → Pa
  | 0, _ => .bad
  | n + 1, k => bif Nat.beq k 0 then .e else bif Nat.beq (Nat.mod (Nat.sub k 1) 2) 0 then .l (paOf n (Nat.div (Nat.sub k 1) 2)) else .r (paOf n (Nat.div (Nat.sub k 1) 2))

noncomputable def gp {α : Type} (p : Pa) : Tr α → (Option α → Bool) → Bool :=
  Pa.rec (motive := fun _ => Tr α → (Option α → Bool) → Bool)
    (fun t k => Tr.rec (motive := fun _ => Bool) (k none) (fun v _ _ _ _ => k v) (fun _ _ _ _ => false) t)
    (fun _ ih t k => Tr.rec (motive := fun _ => Bool) (k none) (fun _ l _ _ _ => ih l k) (fun _ _ _ _ => false) t)
    (fun _ ih t k => Tr.rec (motive := fun _ => Bool) (k none) (fun _ _ r _ _ => ih r k) (fun _ _ _ _ => false) t)
    (fun _ _ => false) p
noncomputable def sp {α : Type} (v : Option α) (p : Pa) : Tr α → (Tr α → Bool) → Bool :=
  Pa.rec (motive := fun _ => Tr α → (Tr α → Bool) → Bool)
    (fun t k => Tr.rec (motive := fun _ => Bool) (k (.nd v .lf .lf)) (fun _ l r _ _ => k (.nd v l r)) (fun _ _ _ _ => false) t)
    (fun _ ih t k => Tr.rec (motive := fun _ => Bool) (ih .lf fun l' => k (.nd none l' .lf)) (fun u l r _ _ => ih l fun l' => k (.nd u l' r)) (fun _ _ _ _ => false) t)
    (fun _ ih t k => Tr.rec (motive := fun _ => Bool) (ih .lf fun r' => k (.nd none .lf r')) (fun u l r _ _ => ih r fun r' => k (.nd u l r')) (fun _ _ _ _ => false) t)
    (fun _ _ => false) p
/-- The same, of values; of objects: no type is left to be put in. -/
noncomputable def gpT (p : Pa) : Tr AV → (Option AV → Bool) → Bool :=
  Pa.rec (motive := fun _ => Tr AV → (Option AV → Bool) → Bool)
    (fun t k => Tr.rec (motive := fun _ => Bool) (k none) (fun v _ _ _ _ => k v) (fun _ _ _ _ => false) t)
    (fun _ ih t k => Tr.rec (motive := fun _ => Bool) (k none) (fun _ l _ _ _ => ih l k) (fun _ _ _ _ => false) t)
    (fun _ ih t k => Tr.rec (motive := fun _ => Bool) (k none) (fun _ _ r _ _ => ih r k) (fun _ _ _ _ => false) t)
    (fun _ _ => false) p
noncomputable def spT (v : AV) (p : Pa) : Tr AV → (Tr AV → Bool) → Bool :=
  Pa.rec (motive := fun _ => Tr AV → (Tr AV → Bool) → Bool)
    (fun t k => Tr.rec (motive := fun _ => Bool) (k (.nd (some v) .lf .lf)) (fun _ l r _ _ => k (.nd (some v) l r)) (fun _ _ _ _ => false) t)
    (fun _ ih t k => Tr.rec (motive := fun _ => Bool) (ih .lf fun l' => k (.nd none l' .lf)) (fun u l r _ _ => ih l fun l' => k (.nd u l' r)) (fun _ _ _ _ => false) t)
    (fun _ ih t k => Tr.rec (motive := fun _ => Bool) (ih .lf fun r' => k (.nd none .lf r')) (fun u l r _ _ => ih r fun r' => k (.nd u l r')) (fun _ _ _ _ => false) t)
    (fun _ _ => false) p
noncomputable def gpH (p : Pa) : Tr AO → (Option AO → Bool) → Bool :=
  Pa.rec (motive := fun _ => Tr AO → (Option AO → Bool) → Bool)
    (fun t k => Tr.rec (motive := fun _ => Bool) (k none) (fun v _ _ _ _ => k v) (fun _ _ _ _ => false) t)
    (fun _ ih t k => Tr.rec (motive := fun _ => Bool) (k none) (fun _ l _ _ _ => ih l k) (fun _ _ _ _ => false) t)
    (fun _ ih t k => Tr.rec (motive := fun _ => Bool) (k none) (fun _ _ r _ _ => ih r k) (fun _ _ _ _ => false) t)
    (fun _ _ => false) p
noncomputable def spH (v : AO) (p : Pa) : Tr AO → (Tr AO → Bool) → Bool :=
  Pa.rec (motive := fun _ => Tr AO → (Tr AO → Bool) → Bool)
    (fun t k => Tr.rec (motive := fun _ => Bool) (k (.nd (some v) .lf .lf)) (fun _ l r _ _ => k (.nd (some v) l r)) (fun _ _ _ _ => false) t)
    (fun _ ih t k => Tr.rec (motive := fun _ => Bool) (ih .lf fun l' => k (.nd none l' .lf)) (fun u l r _ _ => ih l fun l' => k (.nd u l' r)) (fun _ _ _ _ => false) t)
    (fun _ ih t k => Tr.rec (motive := fun _ => Bool) (ih .lf fun r' => k (.nd none .lf r')) (fun u l r _ _ => ih r fun r' => k (.nd u l r')) (fun _ _ _ _ => false) t)
    (fun _ _ => false) p

/-! ### What a value is: one step, no type left to be put in -/
noncomputable def avPtr (x : AV) (kp : Nat → Nat → Nat → Bool) (kf : List AV → Nat → Bool) : Bool :=
  AV.rec (motive_1 := fun _ => Bool) (motive_2 := fun _ => Bool) (motive_3 := fun _ => Bool) (fun _ => false) (fun _ _ => false) (fun _ => false) false false false false false false (fun i r o => kp i r o) (fun _ _ _ => false) (fun _ => false) (fun _ => false) (fun _ _ _ => false) (fun row o _ => kf row o) (fun _ _ _ _ _ => false) (fun _ _ _ => false) (fun _ _ => false) (fun _ _ => false) false (fun _ => false) false false false (fun _ _ _ _ => false) false (fun _ _ _ _ => false) x
noncomputable def avBool (x : AV) (k : Bool → Bool) : Bool :=
  AV.rec (motive_1 := fun _ => Bool) (motive_2 := fun _ => Bool) (motive_3 := fun _ => Bool) (fun b => k b) (fun _ _ => false) (fun _ => false) false false false false false false (fun _ _ _ => false) (fun _ _ _ => false) (fun _ => false) (fun _ => false) (fun _ _ _ => false) (fun _ _ _ => false) (fun _ _ _ _ _ => false) (fun _ _ _ => false) (fun _ _ => false) (fun _ _ => false) false (fun _ => false) false false false (fun _ _ _ _ => false) false (fun _ _ _ _ => false) x
noncomputable def avTup (x : AV) (k : List AV → Bool) : Bool :=
  AV.rec (motive_1 := fun _ => Bool) (motive_2 := fun _ => Bool) (motive_3 := fun _ => Bool) (fun _ => false) (fun _ _ => false) (fun _ => false) false false false false false false (fun _ _ _ => false) (fun _ _ _ => false) (fun _ => false) (fun _ => false) (fun _ _ _ => false) (fun _ _ _ => false) (fun _ _ _ _ _ => false) (fun _ _ _ => false) (fun _ _ => false) (fun vs _ => k vs) false (fun _ => false) false false false (fun _ _ _ _ => false) false (fun _ _ _ _ => false) x
noncomputable def avInt (x : AV) (k : IntKind → Int → Bool) : Bool :=
  AV.rec (motive_1 := fun _ => Bool) (motive_2 := fun _ => Bool) (motive_3 := fun _ => Bool) (fun _ => false) (fun d n => k d n) (fun _ => false) false false false false false false (fun _ _ _ => false) (fun _ _ _ => false) (fun _ => false) (fun _ => false) (fun _ _ _ => false) (fun _ _ _ => false) (fun _ _ _ _ _ => false) (fun _ _ _ => false) (fun _ _ => false) (fun _ _ => false) false (fun _ => false) false false false (fun _ _ _ _ => false) false (fun _ _ _ _ => false) x
noncomputable def isInt (x : AV) : Bool :=
  AV.rec (motive_1 := fun _ => Bool) (motive_2 := fun _ => Bool) (motive_3 := fun _ => Bool) (fun _ => false) (fun _ _ => true) (fun _ => false) false false false false false false (fun _ _ _ => false) (fun _ _ _ => false) (fun _ => false) (fun _ => false) (fun _ _ _ => false) (fun _ _ _ => false) (fun _ _ _ _ _ => false) (fun _ _ _ => false) (fun _ _ => false) (fun _ _ => false) false (fun _ => false) false false false (fun _ _ _ _ => false) false (fun _ _ _ _ => false) x
noncomputable def isAggV (x : AV) : Bool :=
  AV.rec (motive_1 := fun _ => Bool) (motive_2 := fun _ => Bool) (motive_3 := fun _ => Bool) (fun _ => false) (fun _ _ => false) (fun _ => false) false false false false false false (fun _ _ _ => false) (fun _ _ _ => false) (fun _ => false) (fun _ => false) (fun _ _ _ => false) (fun _ _ _ => false) (fun _ _ _ _ _ => false) (fun _ _ _ => false) (fun _ _ => true) (fun _ _ => false) false (fun _ => false) false false false (fun _ _ _ _ => false) false (fun _ _ _ _ => false) x
/-- No pointer to nothing. -/
noncomputable def nonNil (x : AV) : Bool :=
  AV.rec (motive_1 := fun _ => Bool) (motive_2 := fun _ => Bool) (motive_3 := fun _ => Bool) (fun _ => false) (fun _ _ => false) (fun _ => false) false false false false false false (fun _ _ _ => true) (fun _ _ _ => false) (fun _ => false) (fun _ => false) (fun _ _ _ => false) (fun _ _ _ => true) (fun _ _ _ _ _ => true) (fun _ _ _ => true) (fun _ _ => false) (fun _ _ => false) false (fun _ => false) false false false (fun _ _ _ _ => false) false (fun _ _ _ _ => false) x
noncomputable def aoRows (x : Option AO) (k : Nat → List (List AV) → Bool) : Bool :=
  Option.rec (motive := fun _ => Bool) false (fun a => AO.rec (motive := fun _ => Bool) (fun sz rs => k sz rs) (fun _ => false) (fun _ _ => false) (fun _ => false) (fun _ => false) a) x

/-! ### Made ready -/
noncomputable def fN (n : Nat) (k : Nat → Bool) : Bool := Nat.rec (motive := fun _ => Bool) (k Nat.zero) (fun m _ => k (Nat.succ m)) n
noncomputable def fI (n : Int) (k : Int → Bool) : Bool := Int.rec (motive := fun _ => Bool) (fun m => fN m fun m' => k (.ofNat m')) (fun m => fN m fun m' => k (.negSucc m')) n
noncomputable def fL {α : Type} (l : List α) : (List α → Bool) → Bool := List.rec (motive := fun _ => (List α → Bool) → Bool) (fun k => k []) (fun x _ ih k => ih fun l' => k (x :: l')) l
noncomputable def nth {α : Type} (l : List α) : Nat → (α → Bool) → Bool := List.rec (motive := fun _ => Nat → (α → Bool) → Bool) (fun _ _ => false) (fun x _ ih n k => Nat.rec (motive := fun _ => Bool) (k x) (fun m _ => ih m k) n) l
noncomputable def setN {α : Type} (y : α) (l : List α) : Nat → (List α → Bool) → Bool := List.rec (motive := fun _ => Nat → (List α → Bool) → Bool) (fun _ k => k []) (fun x xs ih n k => Nat.rec (motive := fun _ => Bool) (k (y :: xs)) (fun m _ => ih m fun l' => k (x :: l')) n) l
noncomputable def fv (x : AV) (k : AV → Bool) : Bool :=
  AV.rec (motive_1 := fun _ => Bool) (motive_2 := fun _ => Bool) (motive_3 := fun _ => Bool) (fun b => Bool.rec (motive := fun _ => Bool) (k (.bool false)) (k (.bool true)) b) (fun d n => fI n fun n' => k (.int d n')) (fun s => k (.str s)) (k .nilp) (k .nils) (k .nilm) (k .nilf) (k .nili) (k .e0)
    (fun i r o => fN i fun i => fN r fun r => fN o fun o => k (.ptr i r o)) (fun i r n => fN i fun i => fN r fun r => fN n fun n => k (.sl i r n)) (fun i => k (.map i)) (fun i => k (.it i)) (fun sz rs _ => k (.fs sz rs)) (fun row o _ => k (.fp row o)) (fun f a b _ _ => k (.fn f a b)) (fun t v _ => k (.ifc t v)) (fun cs _ => fL cs fun cs => k (.agg cs)) (fun cs _ => fL cs fun cs => k (.tup cs)) (k .any) (fun c => fN c fun c => k (.sy c)) (k .op) (k .un)
    false (fun _ _ _ _ => false) false (fun _ _ _ _ => false) x

abbrev KV := AV → Bool
abbrev K3 := AV → Heap → Nat → Bool
abbrev KS := Tr AV → Heap → Nat → Bool
abbrev CallC := Nat → List AV → Heap → Nat → K3 → Bool

/-- What reads an operand. -/
inductive RB where
  | mk (f : Tr AV → KV → Bool)
noncomputable def rd (o : Operand) : RB := match o with
  | .tmp t => .mk fun T k => gpT (paOf 40 t) T fun x => Option.rec (motive := fun _ => Bool) (k .any) k x
  | .const v => .mk fun T k => k (AV.of v)
  | .func f => .mk fun T k => k (.fn f [] [])
  | .global _ => .mk fun T k => k .any
@[reducible] noncomputable def RB.run (b : RB) (T : Tr AV) (k : KV) : Bool := RB.rec (motive := fun _ => Bool) (fun f => f T k) b
noncomputable def rds (l : List RB) : Tr AV → (List AV → Bool) → Bool := List.rec (motive := fun _ => Tr AV → (List AV → Bool) → Bool) (fun _ k => k []) (fun b _ ih T k => RB.rec (motive := fun _ => Bool) (fun f => f T fun x => ih T fun xs => k (x :: xs)) b) l
noncomputable def rdL (l : List Operand) : List RB := l.map rd

noncomputable def genV (x : Option AV) (k : KV) : Bool := Option.rec (motive := fun _ => Bool) false (fun v => fv v k) x

/-! ### Numbers -/
inductive IB where
  | mk (f : IntKind → Int → Int → KV → Bool)
noncomputable def ibG (op : BinOp) (d : IntKind) (a b : Int) (k : KV) : Bool := genV (ibin op d a b) k
/-- Two that are not below nought. -/
noncomputable def nat2 (a b : Int) (y : Nat → Nat → Bool) (n : Bool) : Bool := Int.rec (motive := fun _ => Bool) (fun m => Int.rec (motive := fun _ => Bool) (fun m' => y m m') (fun _ => n) b) (fun _ => n) a
noncomputable def yn (c : Bool) (k : KV) : Bool := Bool.rec (motive := fun _ => Bool) (k (.bool false)) (k (.bool true)) c
noncomputable def ny (c : Bool) (k : KV) : Bool := Bool.rec (motive := fun _ => Bool) (k (.bool true)) (k (.bool false)) c
noncomputable def add64 (m n : Nat) (k : KV) : Bool := Bool.rec (motive := fun _ => Bool) (ibG .add .i64 (.ofNat m) (.ofNat n) k) (fN (Nat.add m n) fun s => k (.int .i64 (.ofNat s))) (Nat.ble (Nat.add m n) 9223372036854775807)
noncomputable def ib (op : BinOp) : IB := match op with
  | .add => .mk fun d a b k => IntKind.rec (motive := fun _ => Bool) (ibG .add d a b k) (ibG .add d a b k) (ibG .add d a b k)
      (nat2 a b (fun m n => add64 m n k) (ibG .add .i64 a b k))
      (ibG .add d a b k) (ibG .add d a b k) (ibG .add d a b k) (ibG .add d a b k) d
  | .lss => .mk fun d a b k => nat2 a b (fun m n => yn (Nat.ble (Nat.succ m) n) k) (ibG .lss d a b k)
  | .leq => .mk fun d a b k => nat2 a b (fun m n => yn (Nat.ble m n) k) (ibG .leq d a b k)
  | .gtr => .mk fun d a b k => nat2 a b (fun m n => yn (Nat.ble (Nat.succ n) m) k) (ibG .gtr d a b k)
  | .geq => .mk fun d a b k => nat2 a b (fun m n => yn (Nat.ble n m) k) (ibG .geq d a b k)
  | .eql => .mk fun d a b k => nat2 a b (fun m n => yn (Nat.beq m n) k) (ibG .eql d a b k)
  | .neq => .mk fun d a b k => nat2 a b (fun m n => ny (Nat.beq m n) k) (ibG .neq d a b k)
  | op => .mk fun d a b k => ibG op d a b k

/-! ### Operations that call nothing -/
inductive NB where
  | mk (f : Tr AV → Heap → Nat → K3 → Bool)
  | bad
@[reducible] noncomputable def NB.run (b : NB) (T : Tr AV) (H : Heap) (nx : Nat) (k : K3) : Bool := NB.rec (motive := fun _ => Bool) (fun f => f T H nx k) false b

noncomputable def out3 (x : R3) (k : K3) : Bool := Option.rec (motive := fun _ => Bool) false (fun p => Prod.rec (motive := fun _ => Bool) (fun x q => Prod.rec (motive := fun _ => Bool) (fun H' nx' => fv x fun x => fN nx' fun nx' => k x H' nx') q) p) x
noncomputable def genN (E : Env) (o : Op) : NB := .mk fun T H nx k => out3 (operA E o T H nx) k

def isShift (op : BinOp) : Bool := match op with | .shl | .shr => true | _ => false
/-- Two that are not both numbers. -/
noncomputable def binG (E : Env) (op : BinOp) (t : Nat) (x y : AV) (k : KV) : Bool := Bool.rec (motive := fun _ => Bool)
  (match E.ty.get t with | some ti => genV (binA ti.td op x y) k | none => false)
  (match x, y with
    | .agg xs, .agg ys => (match E.eq.get t with | some ds => (match leavesEq ds xs ys with | some b => genV (eqB op b) k | none => false) | none => false)
    | x, y => (match E.ty.get t with | some ti => genV (binA ti.td op x y) k | none => false)) (isAggV x)
inductive BB where
  | mk (f : AV → AV → KV → Bool)
noncomputable def binB (E : Env) (op : BinOp) (t : Nat) : BB := bif isShift op || !(E.ty.get t).isSome then .mk fun x y k => binG E op t x y k
  else match ib op with
    | .mk f => .mk fun x y k => Bool.rec (motive := fun _ => Bool) (binG E op t x y k) (Bool.rec (motive := fun _ => Bool) (binG E op t x y k) (avInt x fun d a => avInt y fun d' b => Bool.rec (motive := fun _ => Bool) false (f d a b k) (sameKind d d')) (isInt y)) (isInt x)

/-- One cell is read. -/
noncomputable def load1 (x : AV) (H : Heap) (k : KV) : Bool := avPtr x (fun i r o => gpH (paOf 40 i) H fun ob => aoRows ob fun _ rs => nth rs r fun row => nth row o k) (fun row o => nth row o k)
noncomputable def loadG (ti : TI) (x : AV) (H : Heap) (k : KV) : Bool := avPtr x (fun i r o => gpH (paOf 40 i) H fun ob => aoRows ob fun _ rs => nth rs r fun row => genV (part ti row o) k) (fun row o => genV (part ti row o) k)
noncomputable def storeC (ti : TI) (a x : AV) (H : Heap) (k : Heap → Bool) : Bool := avPtr a (fun i r o => gpH (paOf 40 i) H fun ob => aoRows ob fun sz rs => nth rs r fun row =>
    Bool.rec (motive := fun _ => Bool) false (fL (splice row o x.cells) fun row' => setN row' rs r fun rs' => spH (.rows sz rs') (paOf 40 i) H k) (Nat.beq x.cells.length ti.size && x.cells.all AV.leaf && Nat.ble (o + ti.size) row.length)) (fun _ _ => false)

noncomputable def nop (E : Env) (o : Op) : NB := match o with
  | .move x => match rd x with | .mk f => .mk fun T H nx k => f T fun v => k v H nx
  | .assign x => match rd x with | .mk f => .mk fun T H nx k => f T fun v => k v H nx
  | .pick c a b => .mk fun T H nx k => (rd c).run T fun v => avBool v fun c => Bool.rec (motive := fun _ => Bool) ((rd b).run T fun v => k v H nx) ((rd a).run T fun v => k v H nx) c
  | .alloc t => match E.ty.get t with
      | some ti => bif Nat.ble 1 ti.size && Nat.beq ti.zero.length ti.size && ti.zero.all AV.leaf then .mk fun T H nx k => spH (.rows ti.size [ti.zero]) (paOf 40 nx) H fun H' => fN (Nat.succ nx) fun nx' => k (.ptr nx 0 0) H' nx' else .bad
      | none => .bad
  | .load t a => match E.ty.get t with
      | some ti => match rd a with
        | .mk f => bif ti.isAgg then .mk fun T H nx k => f T fun v => loadG ti v H fun x => k x H nx else .mk fun T H nx k => f T fun v => load1 v H fun x => k x H nx
      | none => .bad
  | .store t a x => match E.ty.get t with
      | some ti => match rd a, rd x with
        | .mk f, .mk g => .mk fun T H nx k => f T fun v => g T fun y => storeC ti v y H fun H' => k (.tup []) H' nx
      | none => .bad
  | .nilCheck x => match rd x with | .mk f => .mk fun T H nx k => f T fun v => Bool.rec (motive := fun _ => Bool) false (k v H nx) (nonNil v)
  | .binOp op t x y _ => match rd x, rd y, binB E op t with
    | .mk f, .mk g, .mk b => .mk fun T H nx k => f T fun v => g T fun u => b v u fun z => k z H nx
  | .fieldAddr t x f => match fieldOf E t f with
      | some (off, fi) => bif Nat.beq fi.size 0 then .bad else match rd x with
        | .mk f => .mk fun T H nx k => f T fun v => avPtr v (fun i r o => fN (Nat.add o off) fun o' => k (.ptr i r o') H nx) (fun row o => bif Nat.ble (o + off) row.length then fN (Nat.add o off) fun o' => k (.fp row o') H nx else false)
      | none => .bad
  | .indexAddr t x i => .mk fun T H nx k => (rd x).run T fun v => (rd i).run T fun u => genV (indexAddrA E t v u H) fun z => k z H nx
  | .extract t i => match rd t with | .mk f => .mk fun T H nx k => f T fun v => avTup v fun vs => nth vs i fun x => k x H nx
  | o => genN E o

/-! ### Operations -/
inductive PB where
  | mk (f : AV → Tr AV → (Tr AV → Bool) → Bool)
noncomputable def putB (nt : Nat) (dst : Option Nat) : PB := match dst with
  | none => .mk fun _ T k => k T
  | some d => bif Nat.ble (d + 1) nt then .mk fun x T k => spT x (paOf 40 d) T k else .mk fun _ _ _ => false
@[reducible] noncomputable def putC (nt : Nat) (dst : Option Nat) (x : AV) (T : Tr AV) (k : Tr AV → Bool) : Bool := PB.rec (motive := fun _ => Bool) (fun f => f x T k) (putB nt dst)

/-- Whom does an operation call? -/
inductive CeB where
  | none
  | known (g : Nat) (args : List RB)
  | value (f : RB) (args : List RB)
noncomputable def ceB (o : Op) : CeB := match o with
  | .call c => match c.callee with
    | .value (.func g) => .known g (rdL c.args.toList)
    | .value f => .value (rd f) (rdL c.args.toList)
    | _ => .none
  | _ => .none

inductive CB where
  | mk (f : CallC → Tr AV → Heap → Nat → KS → Bool)
@[reducible] noncomputable def CB.run (b : CB) (call : CallC) (T : Tr AV) (H : Heap) (nx : Nat) (k : KS) : Bool := CB.rec (motive := fun _ => Bool) (fun f => f call T H nx k) b

/-- An operation that is wanted. -/
noncomputable def actB (E : Env) (nt : Nat) (o : Oper) : CB := match ceB o.op with
  | .none => match nop E o.op, putB nt o.dst with
    | .mk f, .mk p => .mk fun call T H nx k => f T H nx fun x H' nx' => p x T fun T' => k T' H' nx'
    | .bad, _ => .mk fun _ _ _ _ _ => false
  | .known g args => .mk fun call T H nx k => rds args T fun vs => call g vs H nx fun x H' nx' => putC nt o.dst x T fun T' => k T' H' nx'
  | .value f args => .mk fun call T H nx k => f.run T fun v => match v with
      | .fn g first caps => rds args T fun vs => fL (first ++ vs ++ caps) fun vs => call g vs H nx fun x H' nx' => putC nt o.dst x T fun T' => k T' H' nx'
      | _ => (nop E o.op).run T H nx fun x H' nx' => putC nt o.dst x T fun T' => k T' H' nx'
noncomputable def cop (E : Env) (nt : Nat) (ops : Array Oper) (o : Oper) : CB := match o.guard with
  | none => actB E nt o
  | some (j, want) => match (ops[j]?).bind (·.dst) with
    | some d => .mk fun call T H nx k => gpT (paOf 40 d) T fun x => match x with
      | some (.bool b) => bif b == want then (actB E nt o).run call T H nx k else putC nt o.dst (.tup []) T fun T' => k T' H nx
      | some (.tup []) => putC nt o.dst (.tup []) T fun T' => k T' H nx
      | _ => false
    | none => .mk fun call T H nx k => putC nt o.dst (.tup []) T fun T' => k T' H nx
noncomputable def cops (E : Env) (nt : Nat) (ops : Array Oper) : List Oper → List CB := List.map (cop E nt ops)
noncomputable def opsC (l : List CB) : CallC → Tr AV → Heap → Nat → KS → Bool := List.rec (motive := fun _ => CallC → Tr AV → Heap → Nat → KS → Bool) (fun _ T H nx k => k T H nx) (fun b _ ih call T H nx k => CB.rec (motive := fun _ => Bool) (fun f => f call T H nx fun T' H' nx' => ih call T' H' nx' k) b) l

/-! ### Drawn regions: a plan -/
inductive Stp where
  | take (o : Oper) (i : Nat) (next : Stp)
  | drop (next : Stp)
  | again (next : Stp)
  | clear (next : Stp)
  | eff (o : Oper) (d : Nat) (next : Stp)
  | fin
  | bad

def planPass (ops : Array Oper) (zs : List (Oper × Nat)) (ds : List Nat) : List (Oper × Nat) → Nat → List Rec → (Nat → List Rec → Stp) → Stp
  | [], C, L, k => k C L
  | (o, i) :: rest, C, L, k => bif bit C i || isEff o.op || !(within (depsM o) C) then planPass ops zs ds rest C L k else
    match L with
    | [] => bif beside ops o (ds.getD i 0) [] && !(dstIn o.dst (looksAt ops o)) then .take o i (planPass ops zs ds rest (plus C i) [⟨i, o, .any, 0, false⟩] k) else .bad
    | q :: L => bif barrier C zs ds then .drop (bif beside ops o (ds.getD i 0) [] && !(dstIn o.dst (looksAt ops o)) then .take o i (planPass ops zs ds rest (plus C i) [⟨i, o, .any, 0, false⟩] k) else .bad)
      else (bif beside ops o (ds.getD i 0) (q :: L) && !(dstIn o.dst (looksAt ops o)) then .take o i (planPass ops zs ds rest (plus C i) (⟨i, o, .any, 0, false⟩ :: q :: L) k) else .bad)
def planStage (ops : Array Oper) (zs : List (Oper × Nat)) (ds : List Nat) : Nat → Nat → List Rec → Stp
  | 0, _, _ => .bad
  | n + 1, C, L => planPass ops zs ds zs C L fun C1 L1 => .again (match nextEff C1 zs with
    | none => bif allIn C1 zs then .fin else .bad
    | some (o, i) => bif barrier C1 zs ds then (bif blocked C1 i zs && beside ops o (ds.getD i 0) (openL (ds.getD i 0) []) then .clear (.eff o (ds.getD i 0) (planStage ops zs ds n (plus C1 i) (openL (ds.getD i 0) []))) else .bad)
      else (bif blocked C1 i zs && beside ops o (ds.getD i 0) (openL (ds.getD i 0) L1) then .eff o (ds.getD i 0) (planStage ops zs ds n (plus C1 i) (openL (ds.getD i 0) L1)) else .bad))
def planOf (ops : Array Oper) : Stp := bif staticOk ops then planStage ops (zops ops.toList 0) (downs ops.toList []) (ops.size + 1) 0 [] else .bad

noncomputable def evB (E : Env) (ops : Array Oper) (o : Oper) : NB := match o.guard with
  | none => nop E o.op
  | some (j, want) => match (ops[j]?).bind (·.dst) with
    | some d => .mk fun T H nx k => gpT (paOf 40 d) T fun x => match x with
      | some (.bool b) => bif b == want then (nop E o.op).run T H nx k else k (.tup []) H nx
      | some (.tup []) => k (.tup []) H nx
      | _ => false
    | none => .mk fun T H nx k => k (.tup []) H nx
noncomputable def againC1 (E : Env) (ops : Array Oper) (T : Tr AV) (H : Heap) (nx : Nat) (q : Rec) : Bool := Rec.rec (motive := fun _ => Bool) (fun i o y r fresh =>
  Bool.rec (motive := fun _ => Bool)
    ((evB E ops o).run T H nx fun y' H' nx' => sameV y' y && Nat.beq nx' nx)
    ((evB E ops o).run T H r fun y' H' nx' => sameV y' y && (Nat.beq nx' (r + 1) && sameO (H'.get r) (H.get r))) fresh) q
noncomputable def againC (E : Env) (ops : Array Oper) (T : Tr AV) (H : Heap) (nx : Nat) (L : List Rec) : Bool := List.rec (motive := fun _ => Bool) true (fun q _ ih => Bool.rec (motive := fun _ => Bool) false ih (againC1 E ops T H nx q)) L
noncomputable def execS (E : Env) (call : CallC) (nt : Nat) (ops : Array Oper) (st : Stp) : List Rec → Tr AV → Heap → Nat → KS → Bool :=
  Stp.rec (motive := fun _ => List Rec → Tr AV → Heap → Nat → KS → Bool)
    (fun o i _ ih L T H nx k => (evB E ops o).run T H nx fun y H' nx' => putC nt o.dst y T fun T' => ih (⟨i, o, y, nx, Nat.beq nx' (nx + 1)⟩ :: L) T' H' nx' k)
    (fun _ ih L T H nx k => Bool.rec (motive := fun _ => Bool) false (ih [] T H nx k) (againC E ops T H nx L))
    (fun _ ih L T H nx k => Bool.rec (motive := fun _ => Bool) false (ih L T H nx k) (againC E ops T H nx L))
    (fun _ ih L T H nx k => ih [] T H nx k)
    (fun o d _ ih L T H nx k => (cop E nt ops o).run call T H nx fun T' H' nx' => ih (openL d L) T' H' nx' k)
    (fun _ T H nx k => k T H nx)
    (fun _ _ _ _ _ => false) st

/-! ### Bodies, calls -/
abbrev KX := ExA → Tr AV → Heap → Nat → Bool
abbrev XF := CallC → Nat → Tr AV → Heap → Nat → KX → Bool
inductive XB where
  | mk (f : XF)
@[reducible] noncomputable def XB.run (b : XB) (call : CallC) (n : Nat) (T : Tr AV) (H : Heap) (nx : Nat) (k : KX) : Bool := XB.rec (motive := fun _ => Bool) (fun f => f call n T H nx k) b
/-- A body; a step of the fuel for each level. -/
noncomputable def seqX (a b : XB) : XB := .mk fun call n T H nx k => Nat.rec (motive := fun _ => Bool) false (fun m _ => a.run call m T H nx fun e T' H' nx' => ExA.rec (motive := fun _ => Bool) (b.run call m T' H' nx' k) (fun id => k (.exit id) T' H' nx') (k .ret T' H' nx') e) n
noncomputable def condX (x : RB) (a b : XB) : XB := .mk fun call n T H nx k => Nat.rec (motive := fun _ => Bool) false (fun m _ => x.run T fun v => avBool v fun c => Bool.rec (motive := fun _ => Bool) (b.run call m T H nx k) (a.run call m T H nx k) c) n
noncomputable def blockX (id : Nat) (b : XB) : XB := .mk fun call n T H nx k => Nat.rec (motive := fun _ => Bool) false (fun m _ => b.run call m T H nx fun e T' H' nx' => ExA.rec (motive := fun _ => Bool) (k .normal T' H' nx') (fun id' => Bool.rec (motive := fun _ => Bool) (k (.exit id') T' H' nx') (k .normal T' H' nx') (Nat.beq id' id)) (k .ret T' H' nx') e) n
noncomputable def loopX (b : XB) : XB := .mk fun call n T H nx k => Nat.rec (motive := fun _ => Tr AV → Heap → Nat → KX → Bool) (fun _ _ _ _ => false) (fun m ih T H nx k => b.run call m T H nx fun e T' H' nx' => ExA.rec (motive := fun _ => Bool) (ih T' H' nx' k) (fun id => k (.exit id) T' H' nx') (k .ret T' H' nx') e) n T H nx k
noncomputable def exX (e : ExA) : XB := .mk fun call n T H nx k => Nat.rec (motive := fun _ => Bool) false (fun m _ => k e T H nx) n
noncomputable def opsX (l : List CB) : XB := .mk fun call n T H nx k => Nat.rec (motive := fun _ => Bool) false (fun m _ => opsC l call T H nx (k .normal)) n
noncomputable def drawX (E : Env) (nt : Nat) (ops : Array Oper) : XB := .mk fun call n T H nx k => Nat.rec (motive := fun _ => Bool) false (fun m _ => execS E call nt ops (planOf ops) [] T H nx (k .normal)) n
noncomputable def badX : XB := .mk fun _ _ _ _ _ _ => false
noncomputable def xb (E : Env) (nt : Nat) (c : Code) : XB := Code.rec (motive := fun _ => XB)
  (exX .normal) (fun _ ops draw => Bool.rec (motive := fun _ => XB) (opsX (cops E nt ops ops.toList)) (drawX E nt ops) draw) (fun _ _ a b => seqX a b) (fun x _ _ a b => condX (rd x) a b) (fun id _ b => blockX id b) (fun _ b => loopX b)
  (fun _ _ _ _ _ _ => badX) (fun id => exX (.exit id)) (fun _ _ => badX) (fun _ => badX) (fun _ => badX) (exX .ret) (fun _ => badX) c

inductive CF where
  | prim (p : PrimA)
  | code (nt : Nat) (f : XF) (rs : List ResultVar)
  | bad
noncomputable def cfn (E : Env) (prim : Nat → Option PrimA) (f : Nat) : CF := match prim f with
  | some p => .prim p
  | none => match E.fn.get f with
    | some fn => match fn.body with
      | some c => match xb E fn.ntmps c with | .mk f => .code fn.ntmps f fn.results.toList
      | none => .bad
    | none => .bad
noncomputable def argsC (l : List AV) : Nat → Tr AV → (Tr AV → Bool) → Bool := List.rec (motive := fun _ => Nat → Tr AV → (Tr AV → Bool) → Bool) (fun _ T k => k T) (fun x _ ih i T k => spT x (paOf 40 i) T fun T' => ih (Nat.succ i) T' k) l
noncomputable def resC1 (E : Env) (r : ResultVar) (T : Tr AV) (H : Heap) (k : KV) : Bool := match r with
  | .tmp t => (rd (.tmp t)).run T k
  | .cell a t => match E.ty.get t with
    | some ti => (rd (.tmp a)).run T fun v => loadG ti v H k
    | none => false
noncomputable def resC (E : Env) (l : List ResultVar) : Tr AV → Heap → (List AV → Bool) → Bool := List.rec (motive := fun _ => Tr AV → Heap → (List AV → Bool) → Bool) (fun _ _ k => k []) (fun r _ ih T H k => resC1 E r T H fun x => ih T H fun xs => k (x :: xs)) l
noncomputable def oneC (xs : List AV) (k : KV) : Bool := match xs with | [x] => k x | xs => k (.tup xs)
noncomputable def callC (E : Env) (prim : Nat → Option PrimA) (F n : Nat) : CallC :=
  Nat.rec (motive := fun _ => CallC) (fun _ _ _ _ _ => false) (fun _ ih f args H nx k => CF.rec (motive := fun _ => Bool)
    (fun p => out3 (p args H nx) k)
    (fun nt c rs => Bool.rec (motive := fun _ => Bool) false (argsC args 0 .lf fun T => c ih F T H nx fun e T' H' nx' => ExA.rec (motive := fun _ => Bool)
        (resC E rs T' H' fun xs => oneC xs fun y => k y H' nx') (fun _ => false) (resC E rs T' H' fun xs => oneC xs fun y => k y H' nx') e) (Nat.ble args.length nt))
    false (cfn E prim f)) n
end Go.Cl
