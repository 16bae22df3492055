/- strings.Cut as the library's contract has it; a context that knows internal/bytealg.MaxLen as well. The laying is written by program. -/
import Derived.Test.YtdelibcanngipaaDoorLcB
import Derived.Test.YtdelibcanngipaaDoorFrAG
import Derived.Shelf.Strings.Cut
namespace Go.Proofs
set_option maxRecDepth 100000
def Lx.lays145_ren : Go.Shelf.Ren := ⟨fun | 145 => 35 | 217 => 39 | 219 => 55 | 220 => 42 | 224 => 64 | 225 => 63 | 266 => 52 | 267 => 65 | 314 => 71 | n => n, fun | 3 => 3 | 4 => 4 | 5 => 5 | 9 => 9 | 46 => 37 | 51 => 77 | 59 => 47 | 146 => 78 | n => n, fun | 1 => 2 | n => n⟩
theorem Lx.lays145 : Go.Proofs.Lays.n145 Tryd.prog Lx.lays145_ren :=
  { mixed := by kernel_rfl, f145 := Tryd.func35.trans (congrArg some (by kernel_rfl)), f217 := Tryd.func39.trans (congrArg some (by kernel_rfl)), f219 := Tryd.func55.trans (congrArg some (by kernel_rfl)), f220 := Tryd.func42.trans (congrArg some (by kernel_rfl)), f224 := Tryd.func64.trans (congrArg some (by kernel_rfl)), f225 := Tryd.func63.trans (congrArg some (by kernel_rfl)), f266 := Tryd.func52.trans (congrArg some (by kernel_rfl)), f267 := Tryd.func65.trans (congrArg some (by kernel_rfl)), f314 := Tryd.func71.trans (congrArg some (by kernel_rfl)), t3 := Tryd.underlying3, a3 := Tryd.isAgg3, z3 := Tryd.sizeOf3, v3 := Tryd.zeroValue3, t4 := Tryd.underlying4, a4 := Tryd.isAgg4, z4 := Tryd.sizeOf4, v4 := Tryd.zeroValue4, t5 := Tryd.underlying5, a5 := Tryd.isAgg5, z5 := Tryd.sizeOf5, v5 := Tryd.zeroValue5, t9 := Tryd.underlying9, a9 := Tryd.isAgg9, z9 := Tryd.sizeOf9, v9 := Tryd.zeroValue9, t46 := Tryd.underlying37, a46 := Tryd.isAgg37, z46 := Tryd.sizeOf37, v46 := Tryd.zeroValue37, t51 := Tryd.underlying77, a51 := Tryd.isAgg77, z51 := Tryd.sizeOf77, v51 := Tryd.zeroValue77, t59 := Tryd.underlying47, a59 := Tryd.isAgg47, z59 := Tryd.sizeOf47, v59 := Tryd.zeroValue47, t146 := Tryd.underlying78, a146 := Tryd.isAgg78, z146 := Tryd.sizeOf78, v146 := Tryd.zeroValue78, g1 := by kernel_rfl }

end Go.Proofs
namespace Go.Proofs.YtdelibcanngipaaDoor.V
open Go
set_option maxRecDepth 100000
set_option linter.unusedVariables false
def globM (m : Int) : Nat → Option (TypeId × D)
  | 2 => some (3, .int .i64 m)
  | _ => none
noncomputable def Γm (m : Int) : Ctx := Γ.more (globM m)
theorem globM_cell {m : Int} {w : World} {S : Addr → Prop} (h : GlobOK (Γm m) w S) : w.cell? ⟨2, 0, none⟩ = some (.int .i64 m) := by
  obtain ⟨vs, h1, h2⟩ := h 2 3 (.int .i64 m) rfl
  exact glob_int h1 h2
def s32 (l : List UInt8) : Bool := decide (l.length < 4294967281)
def cutA (s sep : List UInt8) : AV := .tuple [.s (Lib.cut s sep).1, .s (Lib.cut s sep).2.1, .b (Lib.cut s sep).2.2]
theorem cut_ret (m : Int) (s sep : List UInt8) (h : s32 s = true) : RetX (Γm m) 35 [.s s, .s sep] [] (cutA s sep) [] := by
  refine ret_shelf (by kernel_rfl) fun w S vals hG ha => ?_
  simp only [RepAs, RepA] at ha
  obtain ⟨v, _, rfl, ⟨s, rfl, rfl⟩, v', _, rfl, ⟨u, rfl, rfl⟩, rfl⟩ := ha
  refine (Any.strings_Cut Lx.lays145 s u m w (by simpa [s32] using h) (globM_cell hG)).mono fun e w' ⟨he, n, hw⟩ => ⟨_, he, by rw [hw]; exact ⟨rfl, rfl, rfl, Nat.le_refl _, fun _ _ => rfl⟩, ?_⟩
  simp only [cutA, RepA, RepAs]
  exact ⟨_, rfl, _, _, rfl, ⟨_, rfl, rfl⟩, _, _, rfl, ⟨_, rfl, rfl⟩, _, _, rfl, rfl, rfl⟩
end Go.Proofs.YtdelibcanngipaaDoor.V
