/- WorldFull's runs, by the kernel: the beginning. -/
import Derived.Test.YtpgdhlnocgfjcaaGreatDoorWfF
set_option maxRecDepth 100000
namespace Go.Cl.Wf
theorem K1 : runX R0 (argsT args 0 .lf) .lf 0 (fun e T H nx => thenC e (runX R1 T H nx fun e T H nx => thenC e (runX R2 T H nx fun e T H nx => thenC e (runX R3 T H nx fun e T H nx => thenC e (runX R5 T H nx fun e T H _ =>
  thenC e (covS nm0 (tmps (.int .i64 0)) (base false (.int .i64 0)) 886 T H)))))) = true := by decide +kernel
end Go.Cl.Wf
