/- strconv.Itoa, strconv.Atoi, strings.Repeat, as the library's contracts have them. The layings are written by program. -/
import Derived.Test.YtlmdkclchjcapaaDoorWhA
import Derived.Shelf.LaysM
import Derived.Shelf.Strconv.Itoa3
import Derived.Shelf.Strconv.Atoi
import Derived.Shelf.Strings.Repeat
namespace Go.Proofs
set_option maxRecDepth 100000
def Lw.lays171_ren : Go.Shelf.Ren := ⟨fun | 129 => 93 | 171 => 49 | 243 => 61 | 246 => 77 | 283 => 83 | 284 => 84 | 285 => 85 | 286 => 86 | 317 => 92 | 318 => 94 | 319 => 95 | 320 => 96 | 337 => 101 | 338 => 102 | n => n, fun | 0 => 0 | 2 => 2 | 3 => 3 | 4 => 4 | 5 => 5 | 9 => 9 | 20 => 20 | 37 => 80 | 46 => 76 | 51 => 106 | 53 => 44 | 171 => 114 | 173 => 117 | 212 => 128 | 213 => 129 | 232 => 134 | 233 => 135 | n => n, fun | 17 => 3 | 18 => 5 | 19 => 6 | n => n⟩
theorem Lw.lays171 : Go.Proofs.LaysM.n171 Tryd.prog Lw.lays171_ren :=
  { mixed := by kernel_rfl, f129 := Tryd.func93.trans (congrArg some (by kernel_rfl)), f171 := Tryd.func49.trans (congrArg some (by kernel_rfl)), f243 := Tryd.func61.trans (congrArg some (by kernel_rfl)), f246 := Tryd.func77.trans (congrArg some (by kernel_rfl)), f283 := Tryd.func83.trans (congrArg some (by kernel_rfl)), f284 := Tryd.func84.trans (congrArg some (by kernel_rfl)), f285 := Tryd.func85.trans (congrArg some (by kernel_rfl)), f286 := Tryd.func86.trans (congrArg some (by kernel_rfl)), f317 := Tryd.func92.trans (congrArg some (by kernel_rfl)), f318 := Tryd.func94.trans (congrArg some (by kernel_rfl)), f319 := Tryd.func95.trans (congrArg some (by kernel_rfl)), f320 := Tryd.func96.trans (congrArg some (by kernel_rfl)), f337 := Tryd.func101.trans (congrArg some (by kernel_rfl)), f338 := Tryd.func102.trans (congrArg some (by kernel_rfl)), t0 := Tryd.underlying0, a0 := Tryd.isAgg0, z0 := Tryd.sizeOf0, v0 := Tryd.zeroValue0, t2 := Tryd.underlying2, a2 := Tryd.isAgg2, z2 := Tryd.sizeOf2, v2 := Tryd.zeroValue2, t3 := Tryd.underlying3, a3 := Tryd.isAgg3, z3 := Tryd.sizeOf3, v3 := Tryd.zeroValue3, t4 := Tryd.underlying4, a4 := Tryd.isAgg4, z4 := Tryd.sizeOf4, v4 := Tryd.zeroValue4, t5 := Tryd.underlying5, a5 := Tryd.isAgg5, z5 := Tryd.sizeOf5, v5 := Tryd.zeroValue5, t9 := Tryd.underlying9, a9 := Tryd.isAgg9, z9 := Tryd.sizeOf9, v9 := Tryd.zeroValue9, t20 := Tryd.underlying20, a20 := Tryd.isAgg20, z20 := Tryd.sizeOf20, v20 := Tryd.zeroValue20, t37 := Tryd.underlying80, a37 := Tryd.isAgg80, z37 := Tryd.sizeOf80, v37 := Tryd.zeroValue80, t46 := Tryd.underlying76, a46 := Tryd.isAgg76, z46 := Tryd.sizeOf76, v46 := Tryd.zeroValue76, t51 := Tryd.underlying106, a51 := Tryd.isAgg106, z51 := Tryd.sizeOf106, v51 := Tryd.zeroValue106, t53 := Tryd.underlying44, a53 := Tryd.isAgg44, z53 := Tryd.sizeOf44, v53 := Tryd.zeroValue44, t171 := Tryd.underlying114, a171 := Tryd.isAgg114, z171 := Tryd.sizeOf114, v171 := Tryd.zeroValue114, t173 := Tryd.underlying117, a173 := Tryd.isAgg117, z173 := Tryd.sizeOf117, v173 := Tryd.zeroValue117, t212 := Tryd.underlying128, a212 := Tryd.isAgg128, z212 := Tryd.sizeOf128, v212 := Tryd.zeroValue128, t213 := Tryd.underlying129, a213 := Tryd.isAgg129, z213 := Tryd.sizeOf129, t232 := Tryd.underlying134, a232 := Tryd.isAgg134, z232 := Tryd.sizeOf134, v232 := Tryd.zeroValue134, t233 := Tryd.underlying135, a233 := Tryd.isAgg135, z233 := Tryd.sizeOf135, v233 := Tryd.zeroValue135, g17 := by kernel_rfl, g18 := by kernel_rfl, g19 := by kernel_rfl, i0 := by kernel_rfl, i2 := by kernel_rfl, i3 := by kernel_rfl, i4 := by kernel_rfl, i5 := by kernel_rfl, i9 := by kernel_rfl, i20 := by kernel_rfl, i37 := by kernel_rfl, i46 := by kernel_rfl, i51 := by kernel_rfl, i53 := by kernel_rfl, i171 := by kernel_rfl, i173 := by kernel_rfl, i212 := by kernel_rfl, i232 := by kernel_rfl, i233 := by kernel_rfl, m17 := by kernel_rfl, m18 := by kernel_rfl, m19 := by kernel_rfl }
def Lw.lays172_ren : Go.Shelf.Ren := ⟨fun | 129 => 93 | 171 => 49 | 172 => 37 | 205 => 82 | 243 => 61 | 244 => 51 | 245 => 52 | 246 => 77 | 247 => 68 | 279 => 69 | 280 => 70 | 281 => 71 | 282 => 72 | 283 => 83 | 284 => 84 | 285 => 85 | 286 => 86 | 287 => 76 | 316 => 81 | 317 => 92 | 318 => 94 | 319 => 95 | 320 => 96 | 321 => 88 | 322 => 89 | 337 => 101 | 338 => 102 | n => n, fun | 0 => 0 | 2 => 2 | 3 => 3 | 4 => 4 | 5 => 5 | 9 => 9 | 20 => 20 | 21 => 21 | 37 => 80 | 46 => 76 | 51 => 106 | 53 => 44 | 75 => 61 | 76 => 62 | 85 => 100 | 127 => 109 | 143 => 124 | 145 => 126 | 167 => 99 | 168 => 102 | 171 => 114 | 173 => 117 | 175 => 88 | 210 => 112 | 212 => 128 | 213 => 129 | 232 => 134 | 233 => 135 | 80 => 98 | n => n, fun | 15 => 1 | 16 => 2 | 17 => 3 | 18 => 5 | 19 => 6 | n => n⟩
theorem Lw.lays172 : Go.Proofs.Lays.n172 Tryd.prog Lw.lays172_ren :=
  { mixed := by kernel_rfl, f129 := Tryd.func93.trans (congrArg some (by kernel_rfl)), f171 := Tryd.func49.trans (congrArg some (by kernel_rfl)), f172 := Tryd.func37.trans (congrArg some (by kernel_rfl)), f205 := Tryd.func82.trans (congrArg some (by kernel_rfl)), f243 := Tryd.func61.trans (congrArg some (by kernel_rfl)), f244 := Tryd.func51.trans (congrArg some (by kernel_rfl)), f245 := Tryd.func52.trans (congrArg some (by kernel_rfl)), f246 := Tryd.func77.trans (congrArg some (by kernel_rfl)), f247 := Tryd.func68.trans (congrArg some (by kernel_rfl)), f279 := Tryd.func69.trans (congrArg some (by kernel_rfl)), f280 := Tryd.func70.trans (congrArg some (by kernel_rfl)), f281 := Tryd.func71.trans (congrArg some (by kernel_rfl)), f282 := Tryd.func72.trans (congrArg some (by kernel_rfl)), f283 := Tryd.func83.trans (congrArg some (by kernel_rfl)), f284 := Tryd.func84.trans (congrArg some (by kernel_rfl)), f285 := Tryd.func85.trans (congrArg some (by kernel_rfl)), f286 := Tryd.func86.trans (congrArg some (by kernel_rfl)), f287 := Tryd.func76.trans (congrArg some (by kernel_rfl)), f316 := Tryd.func81.trans (congrArg some (by kernel_rfl)), f317 := Tryd.func92.trans (congrArg some (by kernel_rfl)), f318 := Tryd.func94.trans (congrArg some (by kernel_rfl)), f319 := Tryd.func95.trans (congrArg some (by kernel_rfl)), f320 := Tryd.func96.trans (congrArg some (by kernel_rfl)), f321 := Tryd.func88.trans (congrArg some (by kernel_rfl)), f322 := Tryd.func89.trans (congrArg some (by kernel_rfl)), f337 := Tryd.func101.trans (congrArg some (by kernel_rfl)), f338 := Tryd.func102.trans (congrArg some (by kernel_rfl)), t0 := Tryd.underlying0, a0 := Tryd.isAgg0, z0 := Tryd.sizeOf0, v0 := Tryd.zeroValue0, t2 := Tryd.underlying2, a2 := Tryd.isAgg2, z2 := Tryd.sizeOf2, v2 := Tryd.zeroValue2, t3 := Tryd.underlying3, a3 := Tryd.isAgg3, z3 := Tryd.sizeOf3, v3 := Tryd.zeroValue3, t4 := Tryd.underlying4, a4 := Tryd.isAgg4, z4 := Tryd.sizeOf4, v4 := Tryd.zeroValue4, t5 := Tryd.underlying5, a5 := Tryd.isAgg5, z5 := Tryd.sizeOf5, v5 := Tryd.zeroValue5, t9 := Tryd.underlying9, a9 := Tryd.isAgg9, z9 := Tryd.sizeOf9, v9 := Tryd.zeroValue9, t20 := Tryd.underlying20, a20 := Tryd.isAgg20, z20 := Tryd.sizeOf20, v20 := Tryd.zeroValue20, t21 := Tryd.underlying21, a21 := Tryd.isAgg21, z21 := Tryd.sizeOf21, v21 := Tryd.zeroValue21, t37 := Tryd.underlying80, a37 := Tryd.isAgg80, z37 := Tryd.sizeOf80, v37 := Tryd.zeroValue80, t46 := Tryd.underlying76, a46 := Tryd.isAgg76, z46 := Tryd.sizeOf76, v46 := Tryd.zeroValue76, t51 := Tryd.underlying106, a51 := Tryd.isAgg106, z51 := Tryd.sizeOf106, v51 := Tryd.zeroValue106, t53 := Tryd.underlying44, a53 := Tryd.isAgg44, z53 := Tryd.sizeOf44, v53 := Tryd.zeroValue44, t75 := Tryd.underlying61, a75 := Tryd.isAgg61, z75 := Tryd.sizeOf61, v75 := Tryd.zeroValue61, t76 := Tryd.underlying62, a76 := Tryd.isAgg62, z76 := Tryd.sizeOf62, v76 := Tryd.zeroValue62, t85 := Tryd.underlying100, a85 := Tryd.isAgg100, z85 := Tryd.sizeOf100, v85 := Tryd.zeroValue100, t127 := Tryd.underlying109, a127 := Tryd.isAgg109, z127 := Tryd.sizeOf109, v127 := Tryd.zeroValue109, t143 := Tryd.underlying124, a143 := Tryd.isAgg124, z143 := Tryd.sizeOf124, v143 := Tryd.zeroValue124, t145 := Tryd.underlying126, a145 := Tryd.isAgg126, z145 := Tryd.sizeOf126, v145 := Tryd.zeroValue126, t167 := Tryd.underlying99, a167 := Tryd.isAgg99, z167 := Tryd.sizeOf99, v167 := Tryd.zeroValue99, t168 := Tryd.underlying102, a168 := Tryd.isAgg102, z168 := Tryd.sizeOf102, v168 := Tryd.zeroValue102, t171 := Tryd.underlying114, a171 := Tryd.isAgg114, z171 := Tryd.sizeOf114, v171 := Tryd.zeroValue114, t173 := Tryd.underlying117, a173 := Tryd.isAgg117, z173 := Tryd.sizeOf117, v173 := Tryd.zeroValue117, t175 := Tryd.underlying88, a175 := Tryd.isAgg88, z175 := Tryd.sizeOf88, v175 := Tryd.zeroValue88, t210 := Tryd.underlying112, a210 := Tryd.isAgg112, z210 := Tryd.sizeOf112, v210 := Tryd.zeroValue112, t212 := Tryd.underlying128, a212 := Tryd.isAgg128, z212 := Tryd.sizeOf128, v212 := Tryd.zeroValue128, t213 := Tryd.underlying129, a213 := Tryd.isAgg129, z213 := Tryd.sizeOf129, t232 := Tryd.underlying134, a232 := Tryd.isAgg134, z232 := Tryd.sizeOf134, v232 := Tryd.zeroValue134, t233 := Tryd.underlying135, a233 := Tryd.isAgg135, z233 := Tryd.sizeOf135, v233 := Tryd.zeroValue135, g15 := by kernel_rfl, g16 := by kernel_rfl, g17 := by kernel_rfl, g18 := by kernel_rfl, g19 := by kernel_rfl }
def Lw.lays105_ren : Go.Shelf.Ren := ⟨fun | 99 => 63 | 105 => 50 | 165 => 64 | 166 => 65 | 169 => 67 | 170 => 66 | 206 => 74 | 212 => 62 | 240 => 79 | 241 => 80 | 263 => 78 | 264 => 53 | 276 => 90 | 277 => 91 | n => n, fun | 0 => 0 | 3 => 3 | 4 => 4 | 5 => 5 | 9 => 9 | 20 => 20 | 37 => 80 | 46 => 76 | 51 => 106 | 53 => 44 | 70 => 93 | 72 => 95 | 75 => 61 | 76 => 62 | 109 => 90 | 127 => 109 | 146 => 107 | 148 => 82 | 164 => 121 | 80 => 98 | n => n, fun | n => n⟩
theorem Lw.lays105 : Go.Proofs.Lays.n105 Tryd.prog Lw.lays105_ren :=
  { mixed := by kernel_rfl, f99 := Tryd.func63.trans (congrArg some (by kernel_rfl)), f105 := Tryd.func50.trans (congrArg some (by kernel_rfl)), f165 := Tryd.func64.trans (congrArg some (by kernel_rfl)), f166 := Tryd.func65.trans (congrArg some (by kernel_rfl)), f169 := Tryd.func67.trans (congrArg some (by kernel_rfl)), f170 := Tryd.func66.trans (congrArg some (by kernel_rfl)), f206 := Tryd.func74.trans (congrArg some (by kernel_rfl)), f212 := Tryd.func62.trans (congrArg some (by kernel_rfl)), f240 := Tryd.func79.trans (congrArg some (by kernel_rfl)), f241 := Tryd.func80.trans (congrArg some (by kernel_rfl)), f263 := Tryd.func78.trans (congrArg some (by kernel_rfl)), f264 := Tryd.func53.trans (congrArg some (by kernel_rfl)), f276 := Tryd.func90.trans (congrArg some (by kernel_rfl)), f277 := Tryd.func91.trans (congrArg some (by kernel_rfl)), t0 := Tryd.underlying0, a0 := Tryd.isAgg0, z0 := Tryd.sizeOf0, v0 := Tryd.zeroValue0, t3 := Tryd.underlying3, a3 := Tryd.isAgg3, z3 := Tryd.sizeOf3, v3 := Tryd.zeroValue3, t4 := Tryd.underlying4, a4 := Tryd.isAgg4, z4 := Tryd.sizeOf4, v4 := Tryd.zeroValue4, t5 := Tryd.underlying5, a5 := Tryd.isAgg5, z5 := Tryd.sizeOf5, v5 := Tryd.zeroValue5, t9 := Tryd.underlying9, a9 := Tryd.isAgg9, z9 := Tryd.sizeOf9, v9 := Tryd.zeroValue9, t20 := Tryd.underlying20, a20 := Tryd.isAgg20, z20 := Tryd.sizeOf20, v20 := Tryd.zeroValue20, t37 := Tryd.underlying80, a37 := Tryd.isAgg80, z37 := Tryd.sizeOf80, v37 := Tryd.zeroValue80, t46 := Tryd.underlying76, a46 := Tryd.isAgg76, z46 := Tryd.sizeOf76, v46 := Tryd.zeroValue76, t51 := Tryd.underlying106, a51 := Tryd.isAgg106, z51 := Tryd.sizeOf106, v51 := Tryd.zeroValue106, t53 := Tryd.underlying44, a53 := Tryd.isAgg44, z53 := Tryd.sizeOf44, v53 := Tryd.zeroValue44, t70 := Tryd.underlying93, a70 := Tryd.isAgg93, z70 := Tryd.sizeOf93, v70 := Tryd.zeroValue93, t72 := Tryd.underlying95, a72 := Tryd.isAgg95, z72 := Tryd.sizeOf95, v72 := Tryd.zeroValue95, t75 := Tryd.underlying61, a75 := Tryd.isAgg61, z75 := Tryd.sizeOf61, v75 := Tryd.zeroValue61, t76 := Tryd.underlying62, a76 := Tryd.isAgg62, z76 := Tryd.sizeOf62, v76 := Tryd.zeroValue62, t109 := Tryd.underlying90, a109 := Tryd.isAgg90, z109 := Tryd.sizeOf90, v109 := Tryd.zeroValue90, t127 := Tryd.underlying109, a127 := Tryd.isAgg109, z127 := Tryd.sizeOf109, v127 := Tryd.zeroValue109, t146 := Tryd.underlying107, a146 := Tryd.isAgg107, z146 := Tryd.sizeOf107, v146 := Tryd.zeroValue107, t148 := Tryd.underlying82, a148 := Tryd.isAgg82, z148 := Tryd.sizeOf82, v148 := Tryd.zeroValue82, t164 := Tryd.underlying121, a164 := Tryd.isAgg121, z164 := Tryd.sizeOf121, v164 := Tryd.zeroValue121 }

theorem Lw.extra : Builder.Extra Tryd.prog Lw.lays105_ren := { sizeBuilder := by kernel_rfl, liesBuilder := by kernel_rfl, t5 := Tryd.underlying5, a5 := Tryd.isAgg5, z5 := Tryd.sizeOf5, v5 := Tryd.zeroValue5, infoByte := by kernel_rfl, cellsByte := by kernel_rfl, sizeByte := by kernel_rfl, neB5 := by decide }
end Go.Proofs
namespace Go.Proofs.YtlmdkclchjcapaaDoor.V
open Go Go.RowKit
set_option maxRecDepth 100000
set_option linter.unusedVariables false
variable {u : Bool} {mx : Int}
theorem pow_tab {w : World} {S : Addr → Prop} (h : GlobOK (Γ u mx) w S) : Lib.TabIs Tryd.prog w "internal/strconv.uint64pow10" .u64 Lib.pow10Tab := by
  obtain ⟨vs, h1, h2, h3⟩ := h.data 3 128 tPow rfl
  obtain ⟨cs, el, fr, q1, q2⟩ := h3 _ rfl
  have e0 := flatD_ok _ _ _ (by kernel_rfl) h2
  have e1 : flatD tPow = Lib.pow10Tab.map fun z => Value.int .u64 z := by kernel_rfl
  have hcs : cs.toList = vs := by
    apply List.ext_getElem?
    intro j
    cases hv : vs[j]? with
    | none =>
      have := List.getElem?_eq_none_iff.1 hv
      rw [List.getElem?_eq_none_iff, Array.length_toList]
      omega
    | some v =>
      have := (h1 j v hv).1
      rw [Nat.zero_add] at this
      simpa [World.cell?, q1] using this
  unfold Lib.TabIs World.var?
  rw [show Tryd.prog.globalNamed "internal/strconv.uint64pow10" = some 3 by kernel_rfl]
  simp only [Option.bind_some, q1]
  rw [← e1, ← e0, ← hcs]
def i64B (n : Int) : Bool := decide (-9223372036854775808 ≤ n) && decide (n ≤ 9223372036854775807)
theorem below_grow {w : World} (k : Nat) (os : Array Go.Obj) : Below w.heap.size w (Go.Sort.grow (w.drewN k) os) := by
  refine ⟨rfl, rfl, rfl, ?_, fun b hb => ?_⟩
  · show w.heap.size ≤ (w.heap ++ os).size
    simp
  · show (w.heap ++ os)[b]? = _
    rw [Array.getElem?_append_left hb]
theorem itoa_ret (n : Int) (h : i64B n = true) : RetX (Γ u mx) 49 [.i .i64 n] [] (.s (Lib.itoa n)) [] := by
  refine ret_shelf (by kernel_rfl) fun w S vals hG ha => ?_
  simp only [RepAs, RepA] at ha
  obtain ⟨v, _, rfl, rfl, rfl⟩ := ha
  simp only [i64B, Bool.and_eq_true, decide_eq_true_eq] at h
  refine (Any.strconv_Itoa Lw.lays171 n h.1 h.2 w (pow_tab hG)).mono fun e w' ⟨he, k, os, hw⟩ => ⟨_, he, by rw [hw]; exact below_grow k os, ?_⟩
  simp only [RepA]
  exact ⟨_, list_eta _, rfl⟩
def repC (s : List UInt8) (c : Int) : Bool := decide (0 ≤ c) && decide (c ≤ 1048576) && decide (s.length ≤ 1048576)
theorem rep_ret (s : List UInt8) (c : Int) (h : repC s c = true) : RetX (Γ u mx) 50 [.s s, .i .i64 c] [] (.s (Lib.repeatL s c.toNat)) [] := by
  refine ret_shelf (by kernel_rfl) fun w S vals hG ha => ?_
  simp only [RepAs, RepA] at ha
  obtain ⟨v, _, rfl, ⟨s, rfl, rfl⟩, v', _, rfl, rfl, rfl⟩ := ha
  simp only [repC, Bool.and_eq_true, decide_eq_true_eq] at h
  obtain ⟨⟨h1, h2⟩, h3⟩ := h
  obtain ⟨k, rfl⟩ := Int.eq_ofNat_of_zero_le h1
  have e1 : s.size = s.data.toList.length := by simp
  have hm : s.size * k ≤ 1048576 * 1048576 := Nat.mul_le_mul (by omega) (by omega)
  refine (Any.strings_Repeat Lw.lays105 Lw.extra s k w (by omega) (by omega)).mono fun e w' ⟨he, hw⟩ => ⟨_, he, hw, ?_⟩
  simp only [RepA, Int.toNat_natCast]
  exact ⟨_, list_eta _, rfl⟩
def atoiB (s : List UInt8) : Bool := decide (s.length ≤ 18) && (Lib.atoi s).isSome
def atoiZ (s : List UInt8) : Int := (Lib.atoi s).getD 0
theorem atoi_ret (s : List UInt8) (h : atoiB s = true) : RetX (Γ u mx) 37 [.s s] [] (.tuple [.i .i64 (atoiZ s), .undef]) [] := by
  refine ret_shelf (by kernel_rfl) fun w S vals hG ha => ?_
  simp only [RepAs, RepA] at ha
  obtain ⟨v, _, rfl, ⟨s, rfl, rfl⟩, rfl⟩ := ha
  simp only [atoiB, Bool.and_eq_true, decide_eq_true_eq] at h
  obtain ⟨n, hn⟩ := Option.isSome_iff_exists.1 h.2
  have e1 : s.size = s.data.toList.length := by simp
  refine (Any.strconv_Atoi Lw.lays172 s n (by omega) hn w).mono fun e w' ⟨he, t, hw⟩ => ⟨_, he, ?_, ?_⟩
  · rw [hw]
    refine ⟨rfl, rfl, rfl, ?_, fun b hb => ?_⟩
    · unfold Lib.bytesWorld
      rw [freeze_size, und_len]
      exact Nat.le_succ _
    · unfold Lib.bytesWorld
      rw [freeze_heap _ _ _ (by simpa using Nat.ne_of_lt hb)]
      exact Below.heap_alloc w.drew _ _ hb
  · simp only [RepA, RepAs]
    exact ⟨_, rfl, _, _, rfl, by simp [atoiZ, hn], _, _, rfl, trivial, rfl⟩
end Go.Proofs.YtlmdkclchjcapaaDoor.V
