/- strings.Split at a point, strings.Trim at the figures, utf8.ValidString, as the library's contracts have them. The layings are written by program. -/
import Derived.Test.YtdelibcanngipaaDoorLdA
import Derived.Shelf.Strings.Split
import Derived.Shelf.Strings.SlTrimAscii
import Derived.Shelf.Unicode.ValidAny
namespace Go.Proofs
set_option maxRecDepth 100000
def Ly.lays146_ren : Go.Shelf.Ren := ⟨fun | 138 => 57 | 143 => 58 | 146 => 36 | 195 => 66 | 197 => 60 | 217 => 39 | 218 => 67 | 219 => 55 | 221 => 43 | 224 => 64 | 225 => 63 | 260 => 68 | 266 => 52 | 267 => 65 | 268 => 56 | 314 => 71 | n => n, fun | 0 => 0 | 3 => 3 | 4 => 4 | 5 => 5 | 9 => 9 | 21 => 21 | 31 => 49 | 46 => 37 | 51 => 77 | 105 => 70 | 119 => 62 | 138 => 64 | 139 => 65 | 146 => 78 | n => n, fun | 1 => 2 | 3 => 0 | 4 => 1 | n => n⟩
theorem Ly.lays146 : Go.Proofs.Lays.n146 Tryd.prog Ly.lays146_ren :=
  { mixed := by kernel_rfl, f138 := Tryd.func57.trans (congrArg some (by kernel_rfl)), f143 := Tryd.func58.trans (congrArg some (by kernel_rfl)), f146 := Tryd.func36.trans (congrArg some (by kernel_rfl)), f195 := Tryd.func66.trans (congrArg some (by kernel_rfl)), f197 := Tryd.func60.trans (congrArg some (by kernel_rfl)), f217 := Tryd.func39.trans (congrArg some (by kernel_rfl)), f218 := Tryd.func67.trans (congrArg some (by kernel_rfl)), f219 := Tryd.func55.trans (congrArg some (by kernel_rfl)), f221 := Tryd.func43.trans (congrArg some (by kernel_rfl)), f224 := Tryd.func64.trans (congrArg some (by kernel_rfl)), f225 := Tryd.func63.trans (congrArg some (by kernel_rfl)), f260 := Tryd.func68.trans (congrArg some (by kernel_rfl)), f266 := Tryd.func52.trans (congrArg some (by kernel_rfl)), f267 := Tryd.func65.trans (congrArg some (by kernel_rfl)), f268 := Tryd.func56.trans (congrArg some (by kernel_rfl)), f314 := Tryd.func71.trans (congrArg some (by kernel_rfl)), t0 := Tryd.underlying0, a0 := Tryd.isAgg0, z0 := Tryd.sizeOf0, v0 := Tryd.zeroValue0, t3 := Tryd.underlying3, a3 := Tryd.isAgg3, z3 := Tryd.sizeOf3, v3 := Tryd.zeroValue3, t4 := Tryd.underlying4, a4 := Tryd.isAgg4, z4 := Tryd.sizeOf4, v4 := Tryd.zeroValue4, t5 := Tryd.underlying5, a5 := Tryd.isAgg5, z5 := Tryd.sizeOf5, v5 := Tryd.zeroValue5, t9 := Tryd.underlying9, a9 := Tryd.isAgg9, z9 := Tryd.sizeOf9, v9 := Tryd.zeroValue9, t21 := Tryd.underlying21, a21 := Tryd.isAgg21, z21 := Tryd.sizeOf21, v21 := Tryd.zeroValue21, t31 := Tryd.underlying49, a31 := Tryd.isAgg49, z31 := Tryd.sizeOf49, v31 := Tryd.zeroValue49, t46 := Tryd.underlying37, a46 := Tryd.isAgg37, z46 := Tryd.sizeOf37, v46 := Tryd.zeroValue37, t51 := Tryd.underlying77, a51 := Tryd.isAgg77, z51 := Tryd.sizeOf77, v51 := Tryd.zeroValue77, t105 := Tryd.underlying70, a105 := Tryd.isAgg70, z105 := Tryd.sizeOf70, v105 := Tryd.zeroValue70, t119 := Tryd.underlying62, a119 := Tryd.isAgg62, z119 := Tryd.sizeOf62, t138 := Tryd.underlying64, a138 := Tryd.isAgg64, z138 := Tryd.sizeOf64, v138 := Tryd.zeroValue64, t139 := Tryd.underlying65, a139 := Tryd.isAgg65, z139 := Tryd.sizeOf65, v139 := Tryd.zeroValue65, t146 := Tryd.underlying78, a146 := Tryd.isAgg78, z146 := Tryd.sizeOf78, v146 := Tryd.zeroValue78, g1 := by kernel_rfl, g3 := by kernel_rfl, g4 := by kernel_rfl }
def Ly.lays160_ren : Go.Shelf.Ren := ⟨fun | 119 => 72 | 120 => 70 | 137 => 29 | 151 => 61 | 152 => 69 | 160 => 37 | 197 => 60 | 217 => 39 | 224 => 64 | 225 => 63 | 227 => 46 | 228 => 59 | 231 => 44 | 232 => 45 | 233 => 47 | 234 => 48 | 235 => 49 | 236 => 50 | 260 => 68 | 266 => 52 | 271 => 62 | n => n, fun | 0 => 0 | 3 => 3 | 4 => 4 | 5 => 5 | 9 => 9 | 21 => 21 | 46 => 37 | 105 => 70 | 116 => 56 | 117 => 57 | 119 => 62 | 124 => 60 | 138 => 64 | 139 => 65 | n => n, fun | 3 => 0 | 4 => 1 | n => n⟩
theorem Ly.lays160 : Go.Proofs.Lays.n160 Tryd.prog Ly.lays160_ren :=
  { mixed := by kernel_rfl, f119 := Tryd.func72.trans (congrArg some (by kernel_rfl)), f120 := Tryd.func70.trans (congrArg some (by kernel_rfl)), f137 := Tryd.func29.trans (congrArg some (by kernel_rfl)), f151 := Tryd.func61.trans (congrArg some (by kernel_rfl)), f152 := Tryd.func69.trans (congrArg some (by kernel_rfl)), f160 := Tryd.func37.trans (congrArg some (by kernel_rfl)), f197 := Tryd.func60.trans (congrArg some (by kernel_rfl)), f217 := Tryd.func39.trans (congrArg some (by kernel_rfl)), f224 := Tryd.func64.trans (congrArg some (by kernel_rfl)), f225 := Tryd.func63.trans (congrArg some (by kernel_rfl)), f227 := Tryd.func46.trans (congrArg some (by kernel_rfl)), f228 := Tryd.func59.trans (congrArg some (by kernel_rfl)), f231 := Tryd.func44.trans (congrArg some (by kernel_rfl)), f232 := Tryd.func45.trans (congrArg some (by kernel_rfl)), f233 := Tryd.func47.trans (congrArg some (by kernel_rfl)), f234 := Tryd.func48.trans (congrArg some (by kernel_rfl)), f235 := Tryd.func49.trans (congrArg some (by kernel_rfl)), f236 := Tryd.func50.trans (congrArg some (by kernel_rfl)), f260 := Tryd.func68.trans (congrArg some (by kernel_rfl)), f266 := Tryd.func52.trans (congrArg some (by kernel_rfl)), f271 := Tryd.func62.trans (congrArg some (by kernel_rfl)), t0 := Tryd.underlying0, a0 := Tryd.isAgg0, z0 := Tryd.sizeOf0, v0 := Tryd.zeroValue0, t3 := Tryd.underlying3, a3 := Tryd.isAgg3, z3 := Tryd.sizeOf3, v3 := Tryd.zeroValue3, t4 := Tryd.underlying4, a4 := Tryd.isAgg4, z4 := Tryd.sizeOf4, v4 := Tryd.zeroValue4, t5 := Tryd.underlying5, a5 := Tryd.isAgg5, z5 := Tryd.sizeOf5, v5 := Tryd.zeroValue5, t9 := Tryd.underlying9, a9 := Tryd.isAgg9, z9 := Tryd.sizeOf9, v9 := Tryd.zeroValue9, t21 := Tryd.underlying21, a21 := Tryd.isAgg21, z21 := Tryd.sizeOf21, v21 := Tryd.zeroValue21, t46 := Tryd.underlying37, a46 := Tryd.isAgg37, z46 := Tryd.sizeOf37, v46 := Tryd.zeroValue37, t105 := Tryd.underlying70, a105 := Tryd.isAgg70, z105 := Tryd.sizeOf70, v105 := Tryd.zeroValue70, t116 := Tryd.underlying56, a116 := Tryd.isAgg56, z116 := Tryd.sizeOf56, t117 := Tryd.underlying57, a117 := Tryd.isAgg57, z117 := Tryd.sizeOf57, v117 := Tryd.zeroValue57, t119 := Tryd.underlying62, a119 := Tryd.isAgg62, z119 := Tryd.sizeOf62, t124 := Tryd.underlying60, a124 := Tryd.isAgg60, z124 := Tryd.sizeOf60, v124 := Tryd.zeroValue60, t138 := Tryd.underlying64, a138 := Tryd.isAgg64, z138 := Tryd.sizeOf64, v138 := Tryd.zeroValue64, t139 := Tryd.underlying65, a139 := Tryd.isAgg65, z139 := Tryd.sizeOf65, v139 := Tryd.zeroValue65, g3 := by kernel_rfl, g4 := by kernel_rfl }
def Ly.lays196_ren : Go.Shelf.Ren := ⟨fun | 196 => 38 | 259 => 51 | n => n, fun | 0 => 0 | 3 => 3 | 4 => 4 | 5 => 5 | 9 => 9 | 12 => 12 | 46 => 37 | 53 => 73 | 119 => 62 | 138 => 64 | 139 => 65 | n => n, fun | 3 => 0 | 4 => 1 | n => n⟩
theorem Ly.lays196 : Go.Proofs.Lays.n196 Tryd.prog Ly.lays196_ren :=
  { mixed := by kernel_rfl, f196 := Tryd.func38.trans (congrArg some (by kernel_rfl)), f259 := Tryd.func51.trans (congrArg some (by kernel_rfl)), t0 := Tryd.underlying0, a0 := Tryd.isAgg0, z0 := Tryd.sizeOf0, v0 := Tryd.zeroValue0, t3 := Tryd.underlying3, a3 := Tryd.isAgg3, z3 := Tryd.sizeOf3, v3 := Tryd.zeroValue3, t4 := Tryd.underlying4, a4 := Tryd.isAgg4, z4 := Tryd.sizeOf4, v4 := Tryd.zeroValue4, t5 := Tryd.underlying5, a5 := Tryd.isAgg5, z5 := Tryd.sizeOf5, v5 := Tryd.zeroValue5, t9 := Tryd.underlying9, a9 := Tryd.isAgg9, z9 := Tryd.sizeOf9, v9 := Tryd.zeroValue9, t12 := Tryd.underlying12, a12 := Tryd.isAgg12, z12 := Tryd.sizeOf12, v12 := Tryd.zeroValue12, t46 := Tryd.underlying37, a46 := Tryd.isAgg37, z46 := Tryd.sizeOf37, v46 := Tryd.zeroValue37, t53 := Tryd.underlying73, a53 := Tryd.isAgg73, z53 := Tryd.sizeOf73, v53 := Tryd.zeroValue73, t119 := Tryd.underlying62, a119 := Tryd.isAgg62, z119 := Tryd.sizeOf62, t138 := Tryd.underlying64, a138 := Tryd.isAgg64, z138 := Tryd.sizeOf64, v138 := Tryd.zeroValue64, t139 := Tryd.underlying65, a139 := Tryd.isAgg65, z139 := Tryd.sizeOf65, v139 := Tryd.zeroValue65, g3 := by kernel_rfl, g4 := by kernel_rfl }

end Go.Proofs
namespace Go.Proofs.YtdelibcanngipaaDoor.V
open Go Go.RowKit
set_option maxRecDepth 100000
set_option linter.unusedVariables false
theorem ba_eq {u : ByteArray} {l : List UInt8} (h : u.data.toList = l) : u = ⟨l.toArray⟩ := by subst h; simp
/-- what lies between points -/
def splitD (s : List UInt8) : List D := (Lib.split s [46]).map D.str
theorem split_ret (mx : Int) (s : List UInt8) (h : s32 s = true) : RetX (Γm mx) 36 [.s s, .s [46]] [] (.sl 9 .ex (splitD s)) [] := by
  refine ret_shelfN (by kernel_rfl) fun w S vals hS hG ha => ?_
  simp only [RepAs, RepA] at ha
  obtain ⟨v, _, rfl, ⟨s, rfl, rfl⟩, v', _, rfl, ⟨u, hu, rfl⟩, rfl⟩ := ha
  obtain rfl := ba_eq hu
  refine (Any.strings_Split Ly.lays146 (by kernel_rfl) s ⟨#[46]⟩ mx w (by simpa [s32] using h) (globM_cell hG) (by decide)).mono fun e w' ⟨he, hw⟩ => ?_
  have hl := Lib.splitB_all ⟨#[46]⟩ (by decide) 0 _ s rfl
  have hd := Lib.splitB_data ⟨#[46]⟩ 0 (Lib.countB s ⟨#[46]⟩) s
  have hx : splitD s.data.toList = (Lib.splitB ⟨#[46]⟩ 0 (Lib.countB s ⟨#[46]⟩) s).map fun b => D.str b.data.toList := by
    have : Lib.split s.data.toList [46] = (Lib.splitB ⟨#[46]⟩ 0 (Lib.countB s ⟨#[46]⟩) s).map (·.data.toList) := hd.symm
    unfold splitD
    rw [this, List.map_map]
    rfl
  subst hw
  refine ⟨_, he, (Below.refl _ w).alloc (Nat.le_refl _) _, fun a => S a ∨ a.block = w.heap.size, fun _ h => .inl h, fun a h => ?_, ?_⟩
  · rcases h with h | h
    · exact .inl h
    · exact .inr ⟨Nat.le_of_eq h.symm, by rw [h, und_len]; exact Nat.lt_succ_self _⟩
  · rw [hx]
    simp only [RepA]
    refine ⟨some ⟨w.heap.size, 0, none⟩, Lib.countB s ⟨#[46]⟩ + 1, by rw [List.length_map, hl], ⟨rfl, by rw [List.length_map, hl]⟩, .inr ⟨_, _, rfl, row_strs (by kernel_rfl) (by kernel_rfl) _ _ _ fun j v hj => ⟨?_, .inr rfl⟩⟩⟩
    rw [Nat.zero_add, World.cell?_alloc_at _ _ _ _ rfl]
    simpa using hj
def asciiB (u : List UInt8) : Bool := u.all fun b => decide (b.toNat < 128)
def trimC (p u : List UInt8) : Bool := s32 p && s32 u && asciiB u
theorem trim_ret (p u : List UInt8) (h : trimC p u = true) : RetX Γ 37 [.s p, .s u] [] (.s (Lib.trimS p u)) [] := by
  refine ret_shelf (by kernel_rfl) fun w S vals hG ha => ?_
  simp only [RepAs, RepA] at ha
  obtain ⟨v, _, rfl, ⟨s, rfl, rfl⟩, v', _, rfl, ⟨u, rfl, rfl⟩, rfl⟩ := ha
  simp only [trimC, s32, Bool.and_eq_true, decide_eq_true_eq] at h
  have e1 : s.size = s.data.toList.length := by simp
  have e2 : u.size = u.data.toList.length := by simp
  refine (Any.strings_Trim_laid Ly.lays160 (by kernel_rfl) s u w (by omega) (by omega) (ascii_of_all h.2)).mono fun e w' ⟨he, hw⟩ => ⟨_, he, hw, ?_⟩
  simp only [RepA]
  exact ⟨_, list_eta _, rfl⟩
theorem tabs {w : World} {S : Addr → Prop} (h : GlobOK Γ w S) : Lib.Utf8Tabs 0 1 w := by
  obtain ⟨v0, c0, r0⟩ := h 0 62 tFirst rfl
  obtain ⟨v1, c1, r1⟩ := h 1 65 tAcc rfl
  have e0 := flatD_ok _ _ _ (by kernel_rfl) r0
  have e1 := flatD_ok _ _ _ (by kernel_rfl) r1
  subst e0 e1
  have f0 : flatD tFirst = (List.range 256).map fun c => Value.int .u8 (Lib.firstT c) := by kernel_rfl
  have f1 : flatD tAcc = (List.range 32).map fun c => Value.int .u8 (if c % 2 = 0 then Lib.accLo (c / 2) else Lib.accHi (c / 2)) := by kernel_rfl
  refine ⟨fun c hc => ?_, fun i hi => ⟨?_, ?_⟩⟩
  · have := (c0 c _ (by rw [f0, List.getElem?_map, List.getElem?_range hc]; rfl)).1
    simpa using this
  · have := (c1 (2 * i) _ (by rw [f1, List.getElem?_map, List.getElem?_range (by omega)]; rfl)).1
    simpa using this
  · have := (c1 (2 * i + 1) _ (by rw [f1, List.getElem?_map, List.getElem?_range (by omega)]; rfl)).1
    rw [Nat.zero_add] at this
    rw [this]
    show some (Value.int .u8 (if (2 * i + 1) % 2 = 0 then Lib.accLo ((2 * i + 1) / 2) else Lib.accHi ((2 * i + 1) / 2))) = _
    rw [if_neg (by omega), show (2 * i + 1) / 2 = i by omega]
theorem valid_ret (s : List UInt8) (h : s32 s = true) : RetX Γ 38 [.s s] [] (.b (Lib.validD s)) [] := by
  refine ret_shelf (by kernel_rfl) fun w S vals hG ha => ?_
  simp only [RepAs, RepA] at ha
  obtain ⟨v, _, rfl, ⟨s, rfl, rfl⟩, rfl⟩ := ha
  have e1 : s.size = s.data.toList.length := by simp
  simp only [s32, decide_eq_true_eq] at h
  refine (Any.utf8_ValidString Ly.lays196 s w (by omega) (tabs hG)).mono fun e w' ⟨he, hw⟩ => ⟨_, he, hw, ?_⟩
  simp only [RepA]
end Go.Proofs.YtdelibcanngipaaDoor.V
