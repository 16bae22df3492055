/- The program of the law's seat, as the machine over values takes it. Definitions and closed facts of the program. -/
import Derived.Test.YtlmdkclchjcapaaDoorProg
import Derived.Test.YtlmdkclchjcapaaDoorFrAG
namespace Go.Proofs.YtlmdkclchjcapaaDoor.V
open Go
set_option maxRecDepth 100000
set_option linter.unusedVariables false
def live : List (FuncId × Nat × List Nat) := [(11, 5, [1, 4, 5]), (11, 9, [1, 4, 6]), (12, 5, [2, 4, 6]), (12, 8, [2, 4, 6]), (13, 6, [2, 4, 6]), (13, 9, [2, 4, 6]), (19, 4, [0, 13, 14]), (19, 12, [0, 6, 51, 52]), (20, 6, [0, 4, 5, 6]), (25, 9, [3, 4, 5, 6, 22, 23]), (26, 6, [0, 5, 6, 29, 30]), (27, 100007, [3, 4]), (27, 100010, [3, 4, 6, 7, 8]), (27, 100012, [3, 4, 6, 7, 8]), (27, 100014, [3, 4, 7, 8]), (27, 100016, [3, 4, 8]), (46, 2, [0, 3]), (50, 38, [7, 8, 9]), (51, 10, [5, 6, 47, 48, 49]), (76, 36, [1, 8, 9, 10, 11, 12, 13, 99, 100, 101]), (85, 1, [0, 1, 4]), (86, 11, [0, 1, 3, 4, 10, 11, 12, 13, 14, 15, 16]), (86, 18, [0, 1, 3, 4, 10, 11, 12, 13, 17]), (87, 15, [0, 1, 5, 6, 7, 8, 9, 10]), (89, 10, [0, 3, 4, 5]), (100, 5, [0, 1, 5, 6, 7, 8, 9]), (100, 11, [0, 1, 5, 6, 7, 8, 10]), (104, 3, [0, 4, 5]), (104, 8, [4, 6, 7, 8])]
def own : List (FuncId × Nat) := []
def roots : List (FuncId × Nat) := [(45, 1)]
def tPow : D := .agg ((List.range 20).map fun n => D.int .u64 (10 ^ n : Nat))
def tUnits : D := .agg [.agg [.str [72], .int .u64 3600], .agg [.str [77], .int .u64 60], .agg [.str [83], .int .u64 1]]
/-- u: is the variable of units known as well? mx: what internal/bytealg.MaxLen holds -/
def globs (u : Bool) (mx : Int) : Nat → Option (TypeId × D)
  | 0 => if u = true then some (67, tUnits) else none
  | 3 => some (128, tPow)
  | 4 => some (3, .int .i64 mx)
  | _ => none
noncomputable def Γ (u : Bool) (mx : Int) : Ctx := { P := Tryd.prog, live := live, G := globs u mx, own := own, roots := roots, I := [1, 2] }
variable {u : Bool} {mx : Int}
theorem hP : tabOk (Γ u mx).P = true := by kernel_rfl
theorem hZ : zeroOk (Γ u mx).P = true := by kernel_rfl
theorem hN : ((Γ u mx).P.funcs.toList.all fun fn => !(fn.name == "runtime.NumGoroutine")) = true := by kernel_rfl
theorem hMix : (Γ u mx).P.follows .mixedOrders = true := by kernel_rfl
end Go.Proofs.YtlmdkclchjcapaaDoor.V
