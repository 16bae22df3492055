/- The program of the law's seat, as the machine over values takes it. Definitions and closed facts of the program. -/
import Derived.Test.YtdelibcanngipaaDoorProg
import Derived.Test.YtdelibcanngipaaDoorFrAF
import GoSem.PinnedTables
namespace Go.Proofs.YtdelibcanngipaaDoor.V
open Go
set_option maxRecDepth 100000
set_option linter.unusedVariables false
def live : List (FuncId × Nat × List Nat) := [(6, 4, [0, 3, 4, 5, 6]), (10, 4, [0, 18, 19]), (11, 4, [0, 3]), (14, 3, [0, 4, 5]), (15, 3, [0, 4, 5]), (16, 3, [3, 7, 8, 9]), (17, 4, [0, 3, 4, 5]), (18, 2, [4]), (19, 2, [0, 4]), (21, 4, [0, 2, 8]), (23, 5, [11, 12, 13]), (26, 3, [0, 3, 4, 5]), (27, 2, [0, 6, 7, 8]), (28, 2, [0, 3]), (28, 16, [0, 3, 5, 6, 7, 8]), (38, 1, [0]), (38, 9, [0]), (43, 11, [0, 1, 2, 3, 9, 10]), (44, 1, [0, 1]), (45, 1, [0, 1]), (46, 2, [0, 2, 4]), (47, 1, [0, 1]), (48, 1, [0, 1]), (49, 1, [0, 1]), (50, 1, [0, 1]), (55, 15, [0, 1, 5, 6, 7, 8, 9, 10]), (56, 6, [0, 1, 6, 7]), (57, 6, [0, 1, 5]), (62, 10, [0, 4, 5, 6]), (65, 5, [0, 1, 5, 6, 7, 8, 9]), (65, 11, [0, 1, 5, 6, 7, 8, 10]), (66, 2, [2, 4]), (69, 5, [0, 4, 7, 8, 9]), (69, 12, [0, 4, 7, 8, 9, 12]), (69, 25, [0, 7, 8, 9, 14, 15]), (69, 29, [0, 7, 8, 9, 14, 15, 16]), (69, 38, [175]), (71, 3, [0, 4, 5]), (71, 8, [4, 6, 7, 8])]
def own : List (FuncId × Nat) := [(18, 6), (18, 23)]
def roots : List (FuncId × Nat) := [(32, 1), (33, 1), (40, 1), (53, 1), (47, 1), (48, 1), (59, 1)]
def tFirst : D := .agg (Go.Pinned.utf8FirstZ.map fun (n : Nat) => D.int .u8 (n : Int))
def tAcc : D := .agg ([(128, 191), (160, 191), (128, 159), (144, 191), (128, 143), (0, 0), (0, 0), (0, 0), (0, 0), (0, 0), (0, 0), (0, 0), (0, 0), (0, 0), (0, 0), (0, 0)].map fun p => .agg [.int .u8 p.1, .int .u8 p.2])
def globs : Nat → Option (TypeId × D)
  | 0 => some (62, tFirst)
  | 1 => some (65, tAcc)
  | _ => none
noncomputable def Γ : Ctx := { P := Tryd.prog, live := live, G := globs, own := own, roots := roots }
theorem hP : tabOk Γ.P = true := by kernel_rfl
theorem hZ : zeroOk Γ.P = true := by kernel_rfl
theorem hN : (Γ.P.funcs.toList.all fun fn => !(fn.name == "runtime.NumGoroutine")) = true := by kernel_rfl
theorem hMix : Γ.P.follows .mixedOrders = true := by kernel_rfl
end Go.Proofs.YtdelibcanngipaaDoor.V
