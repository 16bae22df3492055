/- The functions without a text that the law reaches: what they come to. -/
import Derived.Test.YtjbemleloffafaaDoorGrA
import Derived.Lib.Bytealg
import Derived.Lib.Builder
import Derived.Laws.Externs
namespace Go.Proofs.YtjbemleloffafaaDoor.V
open Go
set_option maxRecDepth 100000
set_option linter.unusedVariables false
set_option linter.unusedSimpArgs false
variable {mx : Int}
def spSU (f : List UInt8 → Int → AV) : List AV → Option (Bool × AV)
  | [.s l, .i .u8 c] => some (true, f l c)
  | _ => none
theorem spSU_ok {Γ : Ctx} {g : FuncId} {f : List UInt8 → Int → AV} (h : ∀ l c, RetX Γ g [.s l, .i .u8 c] [] (f l c) []) : SpecOK Γ ⟨g, dat (spSU f)⟩ := dat_ok fun args r hr => by
  unfold spSU at hr
  split at hr
  · simp only [Option.some.injEq, Prod.mk.injEq] at hr
    obtain ⟨_, rfl⟩ := hr
    exact h _ _
  · exact absurd hr (by simp)
/-- internal/bytealg.IndexByteString -/
def ixB (l : List UInt8) (c : Int) : AV := .i .i64 (Lib.indexByte l c.toNat.toUInt8)
theorem x143 (l : List UInt8) (c : Int) : RetX (Γ mx) 143 [.s l, .i .u8 c] [] (ixB l c) [] := by
  refine Ret.x ?_
  rintro w S vals - - ha
  have hv : ∃ s : ByteArray, vals = [.string s, .int .u8 c] ∧ s.data.toList = l := by
    simp only [RepAs, RepA] at ha
    obtain ⟨v, _, rfl, ⟨s, rfl, rfl⟩, v', _, rfl, rfl, rfl⟩ := ha
    exact ⟨s, rfl, rfl⟩
  refine Exists.elim hv fun s hs => ?_
  rw [hs.1]
  show UponOK Tryd.prog _ ((callFunc 143 #[.string s, .int .u8 c]).run Tryd.prog w)
  rw [run_callFunc_extern Tryd.func143 (by kernel_rfl) (by kernel_rfl) (by kernel_rfl) (e := Extern.BytealgIndexByte.indexByte) (by kernel_rfl), Lib.run_indexByteString]
  exact ⟨S, ⟨fun _ _ => rfl, Nat.le_refl _, fun _ h => h, fun _ h => .inl h, rfl, rfl⟩, by rw [← hs.2]; unfold ixB; simp only [RepA]⟩
/-- internal/bytealg.CountString -/
def ctB (l : List UInt8) (c : Int) : AV := .i .i64 (Lib.countByte l c.toNat.toUInt8 : Nat)
theorem x133 (l : List UInt8) (c : Int) : RetX (Γ mx) 133 [.s l, .i .u8 c] [] (ctB l c) [] := by
  refine Ret.x ?_
  rintro w S vals - - ha
  have hv : ∃ s : ByteArray, vals = [.string s, .int .u8 c] ∧ s.data.toList = l := by
    simp only [RepAs, RepA] at ha
    obtain ⟨v, _, rfl, ⟨s, rfl, rfl⟩, v', _, rfl, rfl, rfl⟩ := ha
    exact ⟨s, rfl, rfl⟩
  refine Exists.elim hv fun s hs => ?_
  rw [hs.1]
  show UponOK Tryd.prog _ ((callFunc 133 #[.string s, .int .u8 c]).run Tryd.prog w)
  rw [run_callFunc_extern Tryd.func133 (by kernel_rfl) (by kernel_rfl) (by kernel_rfl) (e := Extern.BytealgCount.count) (by kernel_rfl), Lib.run_countString]
  exact ⟨S, ⟨fun _ _ => rfl, Nat.le_refl _, fun _ h => h, fun _ h => .inl h, rfl, rfl⟩, by rw [← hs.2]; unfold ctB; simp only [RepA]⟩
/-- internal/abi.NoEscape -/
def xNoEscape : List AV → Objs → Option (Bool × AV × Objs)
  | [a], ob => some (true, a, ob)
  | _, _ => none
theorem x129 (a : AV) (ob : Objs) : RetX (Γ mx) 129 [a] ob a ob := by
  rintro w S σ X vals - hM ha
  have hv : ∃ v, vals = [v] ∧ RepA (Γ mx).P w S σ ob a v := by
    simp only [RepAs] at ha
    obtain ⟨v, _, rfl, hv, rfl⟩ := ha
    exact ⟨v, rfl, hv⟩
  refine Exists.elim hv fun v hv => ?_
  rw [hv.1]
  show UponOK Tryd.prog _ ((callFunc 129 #[v]).run Tryd.prog w)
  rw [run_callFunc_extern Tryd.func129 (by kernel_rfl) (by kernel_rfl) (by kernel_rfl) (e := Extern.AbiNoEscape.same) (by kernel_rfl), Lib.run_noEscape]
  exact ⟨S, σ, hM, Keeps.refl w S, hv.2⟩
theorem xNoEscape_ok : SpecOK (Γ mx) ⟨129, xNoEscape⟩ := fun args obs r obs' h => by
  change xNoEscape args obs = some (true, r, obs') at h
  unfold xNoEscape at h
  split at h
  · simp only [Option.some.injEq, Prod.mk.injEq, true_and] at h
    obtain ⟨rfl, rfl⟩ := h
    exact x129 _ _
  · exact absurd h (by simp)
def ext : Handle := runS [⟨143, dat (spSU ixB)⟩, ⟨129, xNoEscape⟩, ⟨133, dat (spSU ctB)⟩]
set_option maxHeartbeats 6400000 in
theorem ext_ok : CallsOK (Γ mx) ext := by
  have h1 : SpecOK (Γ mx) ⟨143, dat (spSU ixB)⟩ := spSU_ok x143
  have h2 : SpecOK (Γ mx) ⟨129, xNoEscape⟩ := @xNoEscape_ok mx
  have h3 : SpecOK (Γ mx) ⟨133, dat (spSU ctB)⟩ := spSU_ok x133
  exact specs_ok (SpecsOK.cons h1 (SpecsOK.cons h2 (SpecsOK.cons h3 SpecsOK.nil)))
end Go.Proofs.YtjbemleloffafaaDoor.V
