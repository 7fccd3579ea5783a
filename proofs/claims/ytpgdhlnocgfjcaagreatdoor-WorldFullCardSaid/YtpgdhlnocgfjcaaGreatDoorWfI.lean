/- WorldFull's runs, by the kernel: the end. -/
import Derived.Test.YtpgdhlnocgfjcaaGreatDoorWfF
set_option maxRecDepth 100000
namespace Go.Cl.Wf
theorem K5 : ((List.range 5).all fun i => fromX R13 (tmps2 i) seen 891 fun e T H nx => thenC e (runX R14 T H nx fun e T H _ => thenC e (covS nm0 (tmps2 (i + 1)) seen 891 T H))) = true := by decide +kernel
theorem K6 : ((List.range 6).all fun i => fromX R16 (tmps2 i) seen 891 fun e T _ _ => retC e (match T.get 6 with | some (.bool b) => b | _ => false)) = true := by decide +kernel
theorem K7 : ((List.range 6).all fun i => (List.range 256).all fun n => forceT ((mkT (tmps2 i)).set 1 (.int .u8 (.ofNat n))) fun T => forceT (mkT seen) fun H => runX R12 T H 891 fun e T H _ =>
  bif Nat.ble (i + 1) (1 + n % 5) then thenC e (covS (nmn n) (tmps2 i) seen 891 T H) else exitC 2 e (covS (nmn n) (tmps2 i) seen 891 T H)) = true := by decide +kernel
end Go.Cl.Wf
