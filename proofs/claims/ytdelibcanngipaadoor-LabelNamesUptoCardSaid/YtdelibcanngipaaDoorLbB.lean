/- The functions without a text that the law reaches: what they come to. -/
import Derived.Test.YtdelibcanngipaaDoorLbA
import Derived.Lib.Bytealg
import Derived.Lib.Builder
import Derived.Laws.Externs
namespace Go.Proofs.YtdelibcanngipaaDoor.V
open Go
set_option maxRecDepth 100000
set_option linter.unusedVariables false
set_option linter.unusedSimpArgs false

/-- internal/bytealg.IndexByteString -/
def xIndexByte : List AV → Objs → Option (Bool × AV × Objs)
  | [.s l, .i .u8 c], [] => some (true, .i .i64 (Lib.indexByte l c.toNat.toUInt8), [])
  | _, _ => none
/-- internal/bytealg.CountString -/
def xCount : List AV → Objs → Option (Bool × AV × Objs)
  | [.s l, .i .u8 c], [] => some (true, .i .i64 (Lib.countByte l c.toNat.toUInt8 : Nat), [])
  | _, _ => none
/-- internal/abi.NoEscape -/
def xNoEscape : List AV → Objs → Option (Bool × AV × Objs)
  | [a], ob => some (true, a, ob)
  | _, _ => none
theorem xIndexByte_ok : SpecOK Γ ⟨52, xIndexByte⟩ := by
  intro args obs r obs' h
  change xIndexByte args obs = some (true, r, obs') at h
  unfold xIndexByte at h
  split at h
  · cases h
    intro w S σ X vals _ hM ha
    simp only [RepAs, RepA] at ha
    obtain ⟨v, _, rfl, ⟨s, rfl, rfl⟩, v', _, rfl, rfl, rfl⟩ := ha
    show UponOK Tryd.prog _ ((callFunc 52 _).run Tryd.prog w)
    rw [run_callFunc_extern Tryd.func52 (by kernel_rfl) (by kernel_rfl) (by kernel_rfl) (e := Extern.BytealgIndexByte.indexByte) (by kernel_rfl), Lib.run_indexByteString]
    exact ⟨S, σ, hM, Keeps.refl w S, by simp only [RepA]⟩
  · exact absurd h (by simp)
theorem xCount_ok : SpecOK Γ ⟨67, xCount⟩ := by
  intro args obs r obs' h
  change xCount args obs = some (true, r, obs') at h
  unfold xCount at h
  split at h
  · cases h
    intro w S σ X vals _ hM ha
    simp only [RepAs, RepA] at ha
    obtain ⟨v, _, rfl, ⟨s, rfl, rfl⟩, v', _, rfl, rfl, rfl⟩ := ha
    show UponOK Tryd.prog _ ((callFunc 67 _).run Tryd.prog w)
    rw [run_callFunc_extern Tryd.func67 (by kernel_rfl) (by kernel_rfl) (by kernel_rfl) (e := Extern.BytealgCount.count) (by kernel_rfl), Lib.run_countString]
    exact ⟨S, σ, hM, Keeps.refl w S, by simp only [RepA]⟩
  · exact absurd h (by simp)
theorem xNoEscape_ok : SpecOK Γ ⟨53, xNoEscape⟩ := by
  intro args obs r obs' h
  change xNoEscape args obs = some (true, r, obs') at h
  unfold xNoEscape at h
  split at h
  · cases h
    intro w S σ X vals _ hM ha
    simp only [RepAs] at ha
    obtain ⟨v, _, rfl, hv, rfl⟩ := ha
    show UponOK Tryd.prog _ ((callFunc 53 _).run Tryd.prog w)
    rw [run_callFunc_extern Tryd.func53 (by kernel_rfl) (by kernel_rfl) (by kernel_rfl) (e := Extern.AbiNoEscape.same) (by kernel_rfl), Lib.run_noEscape]
    exact ⟨S, σ, hM, Keeps.refl w S, hv⟩
  · exact absurd h (by simp)
def ext : Handle := runS [⟨52, xIndexByte⟩, ⟨53, xNoEscape⟩, ⟨67, xCount⟩]
theorem ext_ok : CallsOK Γ ext := specs_ok (.cons xIndexByte_ok (.cons xNoEscape_ok (.cons xCount_ok .nil)))
end Go.Proofs.YtdelibcanngipaaDoor.V
