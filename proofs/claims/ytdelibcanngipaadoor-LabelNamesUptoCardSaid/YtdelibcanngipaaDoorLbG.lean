/- What the law calls first, without an argument: it comes to true. By the machine over values, run by the kernel. -/
import Derived.Test.YtdelibcanngipaaDoorLbB
namespace Go.Proofs.YtdelibcanngipaaDoor.V
open Go
set_option maxRecDepth 1000000
theorem awake_run : callN Γ ext 60 9 [] [] = some (true, .b true, []) := by kernel_rfl
theorem awake_ret : RetX Γ 9 [] [] (.b true) [] := ret_run hP hZ hN ext_ok awake_run
end Go.Proofs.YtdelibcanngipaaDoor.V
