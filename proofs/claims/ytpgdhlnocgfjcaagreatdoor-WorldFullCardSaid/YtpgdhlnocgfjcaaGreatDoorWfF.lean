/- WorldFull's runs, by the kernel: states that say what counts. -/
import Derived.Test.YtpgdhlnocgfjcaaGreatDoorWfE
import Derived.Test.YtpgdhlnocgfjcaaGreatDoorClEk
set_option maxRecDepth 100000
namespace Go.Cl.Wf
open Go.Proofs

/-! ### The body's parts -/
def sA (c : Code) : Code := match c with | .seq a _ => a | c => c
def sB (c : Code) : Code := match c with | .seq _ b => b | c => c
def blk (c : Code) : Code := match c with | .block _ b => b | c => c
def lp (c : Code) : Code := match c with | .loop b => b | c => c
noncomputable def body : Code := match Tryz.f3.body with | some c => c | none => .skip
noncomputable def R0 : Code := sA body
noncomputable def R1 : Code := sA (sB body)
noncomputable def R2 : Code := sA (sB (sB body))
noncomputable def R3 : Code := sA (sB (sB (sB body)))
noncomputable def b1 : Code := sB (sB (sB (sB body)))
noncomputable def R5 : Code := sA (sA b1)
noncomputable def B1 : Code := lp (blk (sB (sA b1)))
noncomputable def R10 : Code := sA (sB b1)
noncomputable def b3 : Code := sB (sB b1)
noncomputable def R11 : Code := sA (sA b3)
noncomputable def B2 : Code := lp (blk (sB (sA b3)))
noncomputable def R12 : Code := sA B2
noncomputable def R13 : Code := sA (sB B2)
noncomputable def R14 : Code := sB (sB B2)
noncomputable def R16 : Code := sB b3
theorem body_eq : Tryz.f3.body = some (.seq R0 (.seq R1 (.seq R2 (.seq R3 (.seq (.seq R5 (.block 0 (.loop B1))) (.seq R10 (.seq (.seq R11 (.block 2 (.loop (.seq R12 (.seq R13 R14))))) R16))))))) := by kernel_rfl

/-! ### States -/
def files (d : Bool) : List (AV × AV) := (.str [47], .agg [.int .i64 2, .int .i64 0, .str [], .str []]) :: bif d then [(.str [47, 100], .agg [.int .i64 2, .int .i64 0, .str [], .str []])] else []
def base (d : Bool) (n : AV) : List (Nat × AO) := [
  (1, .rows 7 [[.op, .op, .op, .op, .op, .op, .op]]),
  (861, .rows 1 [[.nils]]),
  (862, .map []),
  (863, .map []),
  (864, .map []),
  (865, .rows 5 [[.map 862, .map 863, .map 864, .bool false, .int .i64 0]]),
  (866, .map (files d)),
  (867, .rows 2 [[.map 866, .int .i64 0]]),
  (868, .rows 11 [[.ptr 861 0 0, .ptr 865 0 0, .ptr 867 0 0, .op, .op, .op, .nils, .nils, .int .i64 0, .int .i64 0, .nils]]),
  (869, .map []),
  (870, .rows 5 [[.ptr 868 0 0, .map 869, .int .i64 0, .bool false, .int .i64 0]]),
  (871, .map []),
  (872, .rows 2 [[.ptr 870 0 0, .map 871]]),
  (873, .rows 3 [[.ptr 872 0 0, .op, n]])]
def tmps (i : AV) : List (Nat × AV) := [(1, .un), (5, .ptr 1 0 0), (8, .ptr 873 0 0), (9, i)]
def seen : List (Nat × AO) := (890, .rows 8 [[.nils, .nils, .nils, .nils, .nils, .nils, .nils, .nils]]) :: base true (.int .i64 400)
def tmps2 (i : Nat) : List (Nat × AV) := [(1, .un), (5, .ptr 1 0 0), (8, .ptr 873 0 0), (10, .ptr 890 0 0), (11, .int .i64 (.ofNat i))]

noncomputable def forceT {α : Type} (T : Tr α) : (Tr α → Bool) → Bool := Tr.rec (motive := fun _ => (Tr α → Bool) → Bool) (fun k => k .lf) (fun v _ _ fl fr k => fl fun l => fr fun r => k (.nd v l r)) (fun _ _ _ _ _ => false) T
noncomputable def runX (c : Code) (T : Tr AV) (H : Heap) (nx : Nat) (k : KX) : Bool := (xb E 50 c).run (callX E prim bk 1000000 100) 1000000 T H nx k
noncomputable def fromX (c : Code) (lt : List (Nat × AV)) (lh : List (Nat × AO)) (nx : Nat) (k : KX) : Bool := forceT (mkT lt) fun T => forceT (mkT lh) fun H => runX c T H nx k
noncomputable def thenC (e : ExA) (b : Bool) : Bool := ExA.rec (motive := fun _ => Bool) b (fun _ => false) false e
noncomputable def exitC (id : Nat) (e : ExA) (b : Bool) : Bool := ExA.rec (motive := fun _ => Bool) false (fun i => Bool.rec (motive := fun _ => Bool) false b (Nat.beq i id)) false e
noncomputable def retC (e : ExA) (b : Bool) : Bool := ExA.rec (motive := fun _ => Bool) false (fun _ => false) b e
def nm0 : AV → AV → Bool := fun _ _ => false
/-- A number, as one that is not known: it is 1 now. -/
def nm1 : AV → AV → Bool
  | .int .i64 (.ofNat n), .sy c => Nat.beq n (1 + c)
  | _, _ => false
/-- One more. -/
def nm3 : AV → AV → Bool
  | .sy c, .sy c2 => Nat.beq c (c2 + 1)
  | _, _ => false
/-- It is 399. -/
def nm4 : AV → AV → Bool
  | .sy c, .int .i64 (.ofNat n) => Nat.beq (399 + c) n
  | _, _ => false
def nmn (n : Nat) : AV → AV → Bool
  | .int .u8 (.ofNat m), .un => Nat.beq m n
  | _, _ => false

def args : List AV := [.agg [.op, .op, .op, .op], .un, .agg [.op, .op, .op, .op, .op, .op, .op]]

theorem K2 : fromX B1 (tmps (.int .i64 0)) (base false (.int .i64 0)) 886 (fun e T H _ => thenC e (covS nm1 (tmps (.sy 0)) (base true (.sy 0)) 886 T H)) = true := by decide +kernel
theorem K3 : fromX B1 (tmps (.sy 0)) (base true (.sy 0)) 886 (fun e T H _ => thenC e (covS nm3 (tmps (.sy 0)) (base true (.sy 0)) 886 T H && covS nm4 (tmps (.int .i64 400)) (base true (.int .i64 400)) 886 T H)) = true := by decide +kernel
theorem K4 : fromX B1 (tmps (.int .i64 400)) (base true (.int .i64 400)) 886 (fun e T H nx => exitC 0 e (runX R10 T H nx fun e T H nx => thenC e (runX R11 T H nx fun e T H _ => thenC e (covS nm0 (tmps2 0) seen 891 T H)))) = true := by decide +kernel
end Go.Cl.Wf
