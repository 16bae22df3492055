/- RuA, RuN, RuM, RuO, RuQ: texts of this claim, put together in build order by program. -/
import Derived.Test.YtjbemleloffafaaGreatDoorBe
import Derived.Shelf.LaysM
import Derived.Shelf.Strconv.Itoa3
import Derived.Shelf.Strconv.AtoiAll
import Derived.Lib.AtoiTie
/- RulesTexts, RulesBack: the context with the error variables; strconv.Atoi at every text. The layings are written by program (lay.py). -/
namespace Go.Proofs
set_option maxRecDepth 100000
def Ln.lays171_ren : Go.Shelf.Ren := ⟨fun | 129 => 124 | 171 => 25 | 243 => 59 | 246 => 84 | 283 => 104 | 284 => 105 | 285 => 106 | 286 => 107 | 317 => 123 | 318 => 125 | 319 => 126 | 320 => 127 | 337 => 135 | 338 => 136 | n => n, fun | 0 => 0 | 2 => 2 | 3 => 3 | 4 => 4 | 5 => 5 | 9 => 9 | 20 => 20 | 37 => 87 | 46 => 94 | 51 => 146 | 53 => 29 | 171 => 129 | 173 => 132 | 212 => 145 | 213 => 147 | 232 => 52 | 233 => 162 | n => n, fun | 17 => 3 | 18 => 7 | 19 => 8 | n => n⟩
theorem Ln.lays171 : Go.Proofs.LaysM.n171 Tryz.prog Ln.lays171_ren :=
  { mixed := by kernel_rfl, f129 := Tryz.func124.trans (congrArg some (by kernel_rfl)), f171 := Tryz.func25.trans (congrArg some (by kernel_rfl)), f243 := Tryz.func59.trans (congrArg some (by kernel_rfl)), f246 := Tryz.func84.trans (congrArg some (by kernel_rfl)), f283 := Tryz.func104.trans (congrArg some (by kernel_rfl)), f284 := Tryz.func105.trans (congrArg some (by kernel_rfl)), f285 := Tryz.func106.trans (congrArg some (by kernel_rfl)), f286 := Tryz.func107.trans (congrArg some (by kernel_rfl)), f317 := Tryz.func123.trans (congrArg some (by kernel_rfl)), f318 := Tryz.func125.trans (congrArg some (by kernel_rfl)), f319 := Tryz.func126.trans (congrArg some (by kernel_rfl)), f320 := Tryz.func127.trans (congrArg some (by kernel_rfl)), f337 := Tryz.func135.trans (congrArg some (by kernel_rfl)), f338 := Tryz.func136.trans (congrArg some (by kernel_rfl)), t0 := Tryz.underlying0, a0 := Tryz.isAgg0, z0 := Tryz.sizeOf0, v0 := Tryz.zeroValue0, t2 := Tryz.underlying2, a2 := Tryz.isAgg2, z2 := Tryz.sizeOf2, v2 := Tryz.zeroValue2, t3 := Tryz.underlying3, a3 := Tryz.isAgg3, z3 := Tryz.sizeOf3, v3 := Tryz.zeroValue3, t4 := Tryz.underlying4, a4 := Tryz.isAgg4, z4 := Tryz.sizeOf4, v4 := Tryz.zeroValue4, t5 := Tryz.underlying5, a5 := Tryz.isAgg5, z5 := Tryz.sizeOf5, v5 := Tryz.zeroValue5, t9 := Tryz.underlying9, a9 := Tryz.isAgg9, z9 := Tryz.sizeOf9, v9 := Tryz.zeroValue9, t20 := Tryz.underlying20, a20 := Tryz.isAgg20, z20 := Tryz.sizeOf20, v20 := Tryz.zeroValue20, t37 := Tryz.underlying87, a37 := Tryz.isAgg87, z37 := Tryz.sizeOf87, v37 := Tryz.zeroValue87, t46 := Tryz.underlying94, a46 := Tryz.isAgg94, z46 := Tryz.sizeOf94, v46 := Tryz.zeroValue94, t51 := Tryz.underlying146, a51 := Tryz.isAgg146, z51 := Tryz.sizeOf146, v51 := Tryz.zeroValue146, t53 := Tryz.underlying29, a53 := Tryz.isAgg29, z53 := Tryz.sizeOf29, v53 := Tryz.zeroValue29, t171 := Tryz.underlying129, a171 := Tryz.isAgg129, z171 := Tryz.sizeOf129, v171 := Tryz.zeroValue129, t173 := Tryz.underlying132, a173 := Tryz.isAgg132, z173 := Tryz.sizeOf132, v173 := Tryz.zeroValue132, t212 := Tryz.underlying145, a212 := Tryz.isAgg145, z212 := Tryz.sizeOf145, v212 := Tryz.zeroValue145, t213 := Tryz.underlying147, a213 := Tryz.isAgg147, z213 := Tryz.sizeOf147, t232 := Tryz.underlying52, a232 := Tryz.isAgg52, z232 := Tryz.sizeOf52, v232 := Tryz.zeroValue52, t233 := Tryz.underlying162, a233 := Tryz.isAgg162, z233 := Tryz.sizeOf162, v233 := Tryz.zeroValue162, g17 := by kernel_rfl, g18 := by kernel_rfl, g19 := by kernel_rfl, i0 := by kernel_rfl, i2 := by kernel_rfl, i3 := by kernel_rfl, i4 := by kernel_rfl, i5 := by kernel_rfl, i9 := by kernel_rfl, i20 := by kernel_rfl, i37 := by kernel_rfl, i46 := by kernel_rfl, i51 := by kernel_rfl, i53 := by kernel_rfl, i171 := by kernel_rfl, i173 := by kernel_rfl, i212 := by kernel_rfl, i232 := by kernel_rfl, i233 := by kernel_rfl, m17 := by kernel_rfl, m18 := by kernel_rfl, m19 := by kernel_rfl }
def Ln.lays172_ren : Go.Shelf.Ren := ⟨fun | 129 => 124 | 171 => 25 | 172 => 66 | 205 => 134 | 243 => 59 | 244 => 91 | 245 => 92 | 246 => 84 | 247 => 114 | 279 => 115 | 280 => 116 | 281 => 117 | 282 => 118 | 283 => 104 | 284 => 105 | 285 => 106 | 286 => 107 | 287 => 132 | 316 => 133 | 317 => 123 | 318 => 125 | 319 => 126 | 320 => 127 | 321 => 138 | 322 => 139 | 337 => 135 | 338 => 136 | n => n, fun | 0 => 0 | 2 => 2 | 3 => 3 | 4 => 4 | 5 => 5 | 9 => 9 | 20 => 20 | 21 => 21 | 37 => 87 | 46 => 94 | 51 => 146 | 53 => 29 | 75 => 92 | 76 => 97 | 85 => 138 | 127 => 111 | 143 => 159 | 145 => 161 | 167 => 137 | 168 => 140 | 171 => 129 | 173 => 132 | 175 => 150 | 210 => 153 | 212 => 145 | 213 => 147 | 232 => 52 | 233 => 162 | 80 => 95 | n => n, fun | 15 => 5 | 16 => 6 | 17 => 3 | 18 => 7 | 19 => 8 | n => n⟩
theorem Ln.lays172 : Go.Proofs.LaysC.n172 Tryz.prog Ln.lays172_ren :=
  { mixed := by kernel_rfl, f129 := Tryz.func124.trans (congrArg some (by kernel_rfl)), f171 := Tryz.func25.trans (congrArg some (by kernel_rfl)), f172 := Tryz.func66.trans (congrArg some (by kernel_rfl)), f205 := Tryz.func134.trans (congrArg some (by kernel_rfl)), f243 := Tryz.func59.trans (congrArg some (by kernel_rfl)), f244 := Tryz.func91.trans (congrArg some (by kernel_rfl)), f245 := Tryz.func92.trans (congrArg some (by kernel_rfl)), f246 := Tryz.func84.trans (congrArg some (by kernel_rfl)), f247 := Tryz.func114.trans (congrArg some (by kernel_rfl)), f279 := Tryz.func115.trans (congrArg some (by kernel_rfl)), f280 := Tryz.func116.trans (congrArg some (by kernel_rfl)), f281 := Tryz.func117.trans (congrArg some (by kernel_rfl)), f282 := Tryz.func118.trans (congrArg some (by kernel_rfl)), f283 := Tryz.func104.trans (congrArg some (by kernel_rfl)), f284 := Tryz.func105.trans (congrArg some (by kernel_rfl)), f285 := Tryz.func106.trans (congrArg some (by kernel_rfl)), f286 := Tryz.func107.trans (congrArg some (by kernel_rfl)), f287 := Tryz.func132.trans (congrArg some (by kernel_rfl)), f316 := Tryz.func133.trans (congrArg some (by kernel_rfl)), f317 := Tryz.func123.trans (congrArg some (by kernel_rfl)), f318 := Tryz.func125.trans (congrArg some (by kernel_rfl)), f319 := Tryz.func126.trans (congrArg some (by kernel_rfl)), f320 := Tryz.func127.trans (congrArg some (by kernel_rfl)), f321 := Tryz.func138.trans (congrArg some (by kernel_rfl)), f322 := Tryz.func139.trans (congrArg some (by kernel_rfl)), f337 := Tryz.func135.trans (congrArg some (by kernel_rfl)), f338 := Tryz.func136.trans (congrArg some (by kernel_rfl)), t0 := Tryz.underlying0, a0 := Tryz.isAgg0, z0 := Tryz.sizeOf0, v0 := Tryz.zeroValue0, t2 := Tryz.underlying2, a2 := Tryz.isAgg2, z2 := Tryz.sizeOf2, v2 := Tryz.zeroValue2, t3 := Tryz.underlying3, a3 := Tryz.isAgg3, z3 := Tryz.sizeOf3, v3 := Tryz.zeroValue3, t4 := Tryz.underlying4, a4 := Tryz.isAgg4, z4 := Tryz.sizeOf4, v4 := Tryz.zeroValue4, t5 := Tryz.underlying5, a5 := Tryz.isAgg5, z5 := Tryz.sizeOf5, v5 := Tryz.zeroValue5, t9 := Tryz.underlying9, a9 := Tryz.isAgg9, z9 := Tryz.sizeOf9, v9 := Tryz.zeroValue9, t20 := Tryz.underlying20, a20 := Tryz.isAgg20, z20 := Tryz.sizeOf20, v20 := Tryz.zeroValue20, t21 := Tryz.underlying21, a21 := Tryz.isAgg21, z21 := Tryz.sizeOf21, v21 := Tryz.zeroValue21, t37 := Tryz.underlying87, a37 := Tryz.isAgg87, z37 := Tryz.sizeOf87, v37 := Tryz.zeroValue87, t46 := Tryz.underlying94, a46 := Tryz.isAgg94, z46 := Tryz.sizeOf94, v46 := Tryz.zeroValue94, t51 := Tryz.underlying146, a51 := Tryz.isAgg146, z51 := Tryz.sizeOf146, v51 := Tryz.zeroValue146, t53 := Tryz.underlying29, a53 := Tryz.isAgg29, z53 := Tryz.sizeOf29, v53 := Tryz.zeroValue29, t75 := Tryz.underlying92, a75 := Tryz.isAgg92, z75 := Tryz.sizeOf92, v75 := Tryz.zeroValue92, t76 := Tryz.underlying97, a76 := Tryz.isAgg97, z76 := Tryz.sizeOf97, v76 := Tryz.zeroValue97, t85 := Tryz.underlying138, a85 := Tryz.isAgg138, z85 := Tryz.sizeOf138, v85 := Tryz.zeroValue138, t127 := Tryz.underlying111, a127 := Tryz.isAgg111, z127 := Tryz.sizeOf111, v127 := Tryz.zeroValue111, t143 := Tryz.underlying159, a143 := Tryz.isAgg159, z143 := Tryz.sizeOf159, v143 := Tryz.zeroValue159, t145 := Tryz.underlying161, a145 := Tryz.isAgg161, z145 := Tryz.sizeOf161, v145 := Tryz.zeroValue161, t167 := Tryz.underlying137, a167 := Tryz.isAgg137, z167 := Tryz.sizeOf137, v167 := Tryz.zeroValue137, t168 := Tryz.underlying140, a168 := Tryz.isAgg140, z168 := Tryz.sizeOf140, v168 := Tryz.zeroValue140, t171 := Tryz.underlying129, a171 := Tryz.isAgg129, z171 := Tryz.sizeOf129, v171 := Tryz.zeroValue129, t173 := Tryz.underlying132, a173 := Tryz.isAgg132, z173 := Tryz.sizeOf132, v173 := Tryz.zeroValue132, t175 := Tryz.underlying150, a175 := Tryz.isAgg150, z175 := Tryz.sizeOf150, v175 := Tryz.zeroValue150, t210 := Tryz.underlying153, a210 := Tryz.isAgg153, z210 := Tryz.sizeOf153, v210 := Tryz.zeroValue153, t212 := Tryz.underlying145, a212 := Tryz.isAgg145, z212 := Tryz.sizeOf145, v212 := Tryz.zeroValue145, t213 := Tryz.underlying147, a213 := Tryz.isAgg147, z213 := Tryz.sizeOf147, t232 := Tryz.underlying52, a232 := Tryz.isAgg52, z232 := Tryz.sizeOf52, v232 := Tryz.zeroValue52, t233 := Tryz.underlying162, a233 := Tryz.isAgg162, z233 := Tryz.sizeOf162, v233 := Tryz.zeroValue162, g15 := by kernel_rfl, g16 := by kernel_rfl, g17 := by kernel_rfl, g18 := by kernel_rfl, g19 := by kernel_rfl, t80 := Tryz.underlying95, a80 := Tryz.isAgg95, z80 := Tryz.sizeOf95, v80 := Tryz.zeroValue95, i0 := by kernel_rfl, i2 := by kernel_rfl, i3 := by kernel_rfl, i4 := by kernel_rfl, i5 := by kernel_rfl, i9 := by kernel_rfl, i20 := by kernel_rfl, i21 := by kernel_rfl, i37 := by kernel_rfl, i46 := by kernel_rfl, i51 := by kernel_rfl, i53 := by kernel_rfl, i75 := by kernel_rfl, i76 := by kernel_rfl, i80 := by kernel_rfl, i85 := by kernel_rfl, i127 := by kernel_rfl, i143 := by kernel_rfl, i145 := by kernel_rfl, i167 := by kernel_rfl, i168 := by kernel_rfl, i171 := by kernel_rfl, i173 := by kernel_rfl, i175 := by kernel_rfl, i210 := by kernel_rfl, i212 := by kernel_rfl, i232 := by kernel_rfl, i233 := by kernel_rfl, m15 := by kernel_rfl, m16 := by kernel_rfl, m17 := by kernel_rfl, m18 := by kernel_rfl, m19 := by kernel_rfl, c0 := by kernel_rfl, c2 := by kernel_rfl, c3 := by kernel_rfl, c4 := by kernel_rfl, c5 := by kernel_rfl, c9 := by kernel_rfl, c20 := by kernel_rfl, c21 := by kernel_rfl, c37 := by kernel_rfl, c46 := by kernel_rfl, c51 := by kernel_rfl, c53 := by kernel_rfl, c75 := by kernel_rfl, c76 := by kernel_rfl, c80 := by kernel_rfl, c85 := by kernel_rfl, c127 := by kernel_rfl, c143 := by kernel_rfl, c145 := by kernel_rfl, c167 := by kernel_rfl, c168 := by kernel_rfl, c171 := by kernel_rfl, c173 := by kernel_rfl, c175 := by kernel_rfl, c210 := by kernel_rfl, c212 := by kernel_rfl, c213 := by kernel_rfl, c232 := by kernel_rfl, c233 := by kernel_rfl }
end Go.Proofs
namespace Go.Proofs.YtjbemleloffafaaGreatDoor.V
open Go Go.RowKit
set_option maxRecDepth 100000
set_option linter.unusedVariables false
set_option linter.unusedSimpArgs false
variable {mx : Int}
/-- strconv.ErrSyntax, strconv.ErrRange hold interface values -/
def tPow : D := .agg ((List.range 20).map fun n => D.int .u64 (10 ^ n : Nat))
def globsN (mx : Int) : Nat → Option (TypeId × D)
  | 3 => some (145, tPow)
  | g => globsR mx g
noncomputable def ΓN (mx : Int) : Ctx := { ΓR mx with I := [5, 6], outs := [30, 35], G := globsN mx }
theorem err_cell {w : World} {S : Addr → Prop} (h : GlobOK (ΓN mx) w S) {g : Nat} (hg : g ∈ (ΓN mx).I) : ∃ ev, w.cell? ⟨g, 0, none⟩ = some ev ∧ (ev = .nilIface ∨ ∃ t p, ev = .iface t p) := by
  obtain ⟨v, h1, h2⟩ := h.ifs g hg
  exact ⟨v, (h1 0 v rfl).1, h2⟩
def atZ (s : List UInt8) : Int := match Lib.atoiAll s with | .ok v => v | .range => Lib.atoiSat s | _ => 0
def atE (s : List UInt8) : Bool := match Lib.atoiAll s with | .ok _ => false | _ => true
theorem atoi_all (s : List UInt8) (h : short s = true) : RetX (ΓN mx) 66 [.s s] [] (.tuple [.i .i64 (atZ s), .err (atE s)]) [] := by
  have hl := short_le h
  refine ret_shelf (by kernel_rfl) fun w S vals hG ha => ?_
  simp only [RepAs, RepA] at ha
  obtain ⟨v, _, rfl, ⟨s, rfl, rfl⟩, rfl⟩ := ha
  have e1 : s.size = s.data.toList.length := by simp
  unfold atZ atE
  cases hs : Lib.atoiAll s.data.toList with
  | ok n =>
    refine (Any.strconv_Atoi_ok Ln.lays172 s (by omega) n hs w).mono fun e w' ⟨he, hw⟩ => ⟨_, he, ?_, ?_⟩
    · rcases hw with rfl | ⟨t, rfl⟩
      · exact Below.refl _ _
      · exact Lib.bytesWorld_below _ _ _
    · simp [RepA, RepAs]
  | range =>
    obtain ⟨ev, q1, q2⟩ := err_cell hG (g := 6) (by simp [ΓN])
    refine (Any.strconv_Atoi_range Ln.lays172 s (by omega) hs ev w q1 q2).mono fun e w' ⟨N, he, _, _, hb⟩ => ⟨_, he, hb, ?_⟩
    simp only [RepA, RepAs]
    exact ⟨_, rfl, _, _, rfl, rfl, _, _, rfl, .inr ⟨trivial, _, _, rfl⟩, rfl⟩
  | _ =>
    obtain ⟨ev, q1, q2⟩ := err_cell hG (g := 5) (by simp [ΓN])
    refine (Any.strconv_Atoi_syntax Ln.lays172 s (by omega) hs ev w q1 q2).mono fun e w' ⟨N, he, _, _, hb⟩ => ⟨_, he, hb, ?_⟩
    simp only [RepA, RepAs]
    exact ⟨_, rfl, _, _, rfl, rfl, _, _, rfl, .inr ⟨trivial, _, _, rfl⟩, rfl⟩
theorem pow_tab {w : World} {S : Addr → Prop} (h : GlobOK (ΓN mx) w S) : Lib.TabIs Tryz.prog w "internal/strconv.uint64pow10" .u64 Lib.pow10Tab := by
  obtain ⟨vs, h1, h2, h3⟩ := h.data 3 145 tPow rfl
  obtain ⟨cs, el, fr, q1, q2⟩ := h3 _ rfl
  have e0 := flatD_ok _ _ _ (by kernel_rfl) h2
  have e1 : flatD tPow = Lib.pow10Tab.map fun z => Value.int .u64 z := by kernel_rfl
  have hcs : cs.toList = vs := by
    apply List.ext_getElem?
    intro j
    cases hv : vs[j]? with
    | none =>
      have := List.getElem?_eq_none_iff.1 hv
      rw [List.getElem?_eq_none_iff, Array.length_toList]
      omega
    | some v =>
      have := (h1 j v hv).1
      rw [Nat.zero_add] at this
      simpa [World.cell?, q1] using this
  unfold Lib.TabIs World.var?
  rw [show Tryz.prog.globalNamed "internal/strconv.uint64pow10" = some 3 by kernel_rfl]
  simp only [Option.bind_some, q1]
  rw [← e1, ← e0, ← hcs]
def i64B (n : Int) : Bool := decide (-9223372036854775808 ≤ n) && decide (n ≤ 9223372036854775807)
theorem below_grow {w : World} (k : Nat) (os : Array Go.Obj) : Below w.heap.size w (Go.Sort.grow (w.drewN k) os) := by
  refine ⟨rfl, rfl, rfl, ?_, fun b hb => ?_⟩
  · show w.heap.size ≤ (w.heap ++ os).size
    simp
  · show (w.heap ++ os)[b]? = _
    rw [Array.getElem?_append_left hb]
theorem itoa_ret (n : Int) (h : i64B n = true) : RetX (ΓN mx) 25 [.i .i64 n] [] (.s (Lib.itoa n)) [] := by
  refine ret_shelf (by kernel_rfl) fun w S vals hG ha => ?_
  simp only [RepAs, RepA] at ha
  obtain ⟨v, _, rfl, rfl, rfl⟩ := ha
  simp only [i64B, Bool.and_eq_true, decide_eq_true_eq] at h
  refine (Any.strconv_Itoa Ln.lays171 n h.1 h.2 w (pow_tab hG)).mono fun e w' ⟨he, k, os, hw⟩ => ⟨_, he, by rw [hw]; exact below_grow k os, ?_⟩
  simp only [RepA]
  exact ⟨_, list_eta _, rfl⟩
theorem hPN : tabOk (ΓN mx).P = true := by kernel_rfl
theorem hZN : zeroOk (ΓN mx).P = true := by kernel_rfl
theorem hNN : ((ΓN mx).P.funcs.toList.all fun fn => !(fn.name == "runtime.NumGoroutine")) = true := by kernel_rfl
theorem globs_leN {g : Nat} {t : TypeId} {x : D} (h : globs mx g = some (t, x)) : globsN mx g = some (t, x) := by
  match g, h with
  | 1, h => exact h
  | 2, h => exact h
  | 4, h => exact h
/-- a contract of the plain context holds in this one -/
theorem RetX.bigN {g : FuncId} {args : List AV} {r : AV} (h : RetX (Γ mx) g args [] r []) (h0 : rootsOf (Γ mx).roots g = 0) : RetX (ΓN mx) g args [] r [] := by
  refine Ret.x fun w S vals hS hG ha => ?_
  refine (h.ret h0 w S vals hS ⟨fun g t x hg => hG.data g t x (globs_leN hg), fun g hg => by cases hg⟩ ha).mono ?_
  rintro v w' ⟨S', hl, hr⟩
  exact ⟨S', ⟨hl.same, hl.grow, hl.more, hl.new, hl.env⟩, hr⟩
/-! ### a rule's number -/
def spIt : List AV → Option (Bool × AV)
  | [.i .i64 n] => some (i64B n, .s (Lib.itoa n))
  | _ => none
theorem spIt_ok : SpecOK (ΓN mx) ⟨25, dat spIt⟩ := dat_ok fun args r hr => by
  unfold spIt at hr
  split at hr
  · simp only [Option.some.injEq, Prod.mk.injEq] at hr
    obtain ⟨h1, rfl⟩ := hr
    exact itoa_ret _ h1
  · exact absurd hr (by simp)
def Q33 : Handle := runS [⟨66, dat (sp1 short fun s => .tuple [.i .i64 (atZ s), .err (atE s)])⟩, ⟨25, dat spIt⟩]
theorem q33 (lab : Lab) (s : List UInt8) : evF (ΓN mx) Q33 lab 33 [.s s] [] =
  bif short s then (bif !(atE s) then (bif decide (((List.length s : Int)) ≤ 5) then (bif i64B (atZ s) then (bif (Lib.itoa (atZ s)) == s then (some (.tuple [.i .i64 (atZ s), .b (decide ((atZ s) ≥ 0))], [])) else (some (.tuple [.i .i64 (atZ s), .b false], []))) else none) else (some (.tuple [.i .i64 (atZ s), .b false], []))) else (some (.tuple [.i .i64 (atZ s), .b false], []))) else none := by kernel_rfl
def nmB (s : List UInt8) : Bool := !atE s && (decide (s.length ≤ 5) && ((Lib.itoa (atZ s) == s) && decide (atZ s ≥ 0)))
theorem kh33_ok : CallsOK (ΓN mx) Q33 := specs_ok (.cons (sp1_ok atoi_all) (.cons spIt_ok .nil))
theorem at_bounds {s : List UInt8} (h : atE s = false) : i64B (atZ s) = true := by
  unfold atE at h
  unfold atZ
  cases hs : Lib.atoiAll s with
  | ok v =>
    have hb := Lib.atoiAll_bounds hs
    unfold i64B
    rw [decide_eq_true hb.1, decide_eq_true hb.2]; rfl
  | range => rw [hs] at h; cases h
  | _ => rw [hs] at h; cases h
theorem k33 (s : List UInt8) (h : short s = true) : RetX (ΓN mx) 33 [.s s] [] (.tuple [.i .i64 (atZ s), .b (nmB s)]) [] := by
  refine ret_goes (Γ := ΓN mx) hPN hZN kh33_ok (by kernel_rfl) ⟨0, ?_⟩
  rw [q33, h, nmB, show decide ((s.length : Int) ≤ 5) = decide (s.length ≤ 5) from i64_le _ 5]
  cases he : atE s with
  | true => rfl
  | false =>
    rw [at_bounds he]
    cases decide (s.length ≤ 5) <;> cases Lib.itoa (atZ s) == s <;> rfl
end Go.Proofs.YtjbemleloffafaaGreatDoor.V

/- RulesTexts, RulesBack: numbers as texts, and back: plain law. -/
namespace Go.Proofs.YtjbemleloffafaaGreatDoor.V
open Go
set_option linter.unusedVariables false
set_option linter.unusedSimpArgs false
open Go.Lib (decFrom decDigits digitVal decNat itoa)

theorem dv_some {c : UInt8} (h0 : ¬ c.toNat < 48) (h1 : ¬ c.toNat > 57) : digitVal c = some (c.toNat - 48) := by
  unfold digitVal; rw [if_pos (by omega)]
theorem dv_none {c : UInt8} (h : c.toNat < 48 ∨ c.toNat > 57) : digitVal c = none := by
  unfold digitVal; rw [if_neg (by omega)]
def o1 (o : Option Nat) : Int := match o with | some m => m | none => -1
theorem nmN_dec : ∀ (l : List UInt8) (n : Nat), nmN l (n : Int) = o1 (decFrom n l)
  | [], n => rfl
  | c :: r, n => by
    unfold nmN decFrom
    by_cases h0 : c.toNat < 48
    · rw [dv_none (.inl h0), decide_eq_true h0]; rfl
    · by_cases h1 : c.toNat > 57
      · rw [dv_none (.inr h1), decide_eq_false h0, decide_eq_true h1]; rfl
      · rw [dv_some h0 h1, decide_eq_false h0, decide_eq_false h1, cond_false, cond_false]
        have := nmN_dec r (n * 10 + (c.toNat - 48))
        rw [← this]
        congr 1
        omega
theorem decFrom_snoc : ∀ (l : List UInt8) (c : UInt8) (n : Nat), decFrom n (l ++ [c]) = (decFrom n l).bind fun m => (digitVal c).map fun d => m * 10 + d
  | [], c, n => by
    simp only [List.nil_append, decFrom, Option.bind_some]
    cases digitVal c <;> rfl
  | b :: r, c, n => by
    simp only [List.cons_append, decFrom]
    cases digitVal b with
    | none => rfl
    | some d => exact decFrom_snoc r c _
theorem dgt_nat {d : Nat} (h : d < 10) : (UInt8.ofNat (48 + d)).toNat = 48 + d := by
  simp only [UInt8.toNat_ofNat']; omega
theorem dgt_val {d : Nat} (h : d < 10) : digitVal (UInt8.ofNat (48 + d)) = some d := by
  rw [dv_some (by rw [dgt_nat h]; omega) (by rw [dgt_nat h]; omega), dgt_nat h]; congr 1; omega
theorem dec_small {u : Nat} (h : u < 10) : decDigits u = [UInt8.ofNat (48 + u)] := by rw [decDigits, dif_pos h]
theorem dec_big {u : Nat} (h : ¬ u < 10) : decDigits u = decDigits (u / 10) ++ [UInt8.ofNat (48 + u % 10)] := by rw [decDigits, dif_neg h]
theorem dec_back (u : Nat) : decFrom 0 (decDigits u) = some u := by
  by_cases h : u < 10
  · rw [dec_small h]
    simp only [decFrom, dgt_val h]; congr 1; omega
  · rw [dec_big h, decFrom_snoc, dec_back (u / 10), Option.bind_some, dgt_val (Nat.mod_lt _ (by decide)), Option.map_some]
    congr 1; omega
termination_by u
decreasing_by omega
theorem dec_ne (u : Nat) : decDigits u ≠ [] := by
  by_cases h : u < 10
  · rw [dec_small h]; simp
  · rw [dec_big h]; simp
/-- the first digit of what is not 0 -/
theorem dec_head (u : Nat) (h0 : 1 ≤ u) : ∃ c r, decDigits u = c :: r ∧ c.toNat ≠ 48 := by
  by_cases h : u < 10
  · exact ⟨_, _, dec_small h, by rw [dgt_nat h]; omega⟩
  · obtain ⟨c, r, h1, h2⟩ := dec_head (u / 10) (by omega)
    exact ⟨c, r ++ [_], by rw [dec_big h, h1]; rfl, h2⟩
termination_by u
decreasing_by omega
theorem dec_digit (u : Nat) : ∀ c ∈ decDigits u, 48 ≤ c.toNat ∧ c.toNat ≤ 57 := by
  intro c hc
  by_cases h : u < 10
  · rw [dec_small h] at hc
    simp only [List.mem_singleton] at hc
    rw [hc, dgt_nat h]; omega
  · rw [dec_big h] at hc
    rcases List.mem_append.1 hc with hc | hc
    · exact dec_digit (u / 10) c hc
    · simp only [List.mem_singleton] at hc
      rw [hc, dgt_nat (Nat.mod_lt _ (by decide))]; omega
termination_by u
decreasing_by omega
theorem decFrom_mono : ∀ (l : List UInt8) (n m : Nat), decFrom n l = some m → n ≤ m
  | [], n, m, h => by simp only [decFrom, Option.some.injEq] at h; omega
  | c :: r, n, m, h => by
    simp only [decFrom] at h
    split at h
    · have := decFrom_mono r _ m h; omega
    · exact absurd h (by simp)
theorem dgt_of {c : UInt8} {d : Nat} (h : digitVal c = some d) : d < 10 ∧ UInt8.ofNat (48 + d) = c := by
  obtain ⟨h1, h2, h3⟩ := Lib.digitVal_eq h
  refine ⟨by omega, UInt8.toNat_inj.1 ?_⟩
  rw [dgt_nat (by omega)]; omega
/-- digits with no nought ahead are those of their number -/
theorem dec_of : ∀ (k : Nat) (l : List UInt8) (m : Nat), l.length = k → l ≠ [] → (∀ c r, l = c :: r → r ≠ [] → c.toNat ≠ 48) → decFrom 0 l = some m → decDigits m = l
  | 0, l, m, hk, hne, _, _ => absurd (List.length_eq_zero_iff.1 hk) hne
  | k + 1, l, m, hk, hne, hh, hd => by
    obtain ⟨t, c, rfl⟩ : ∃ t c, l = t ++ [c] := ⟨l.dropLast, l.getLast hne, (List.dropLast_concat_getLast hne).symm⟩
    rw [decFrom_snoc] at hd
    cases ht : decFrom 0 t with
    | none => rw [ht] at hd; exact absurd hd (by simp)
    | some m' =>
      rw [ht, Option.bind_some] at hd
      cases hc : digitVal c with
      | none => rw [hc] at hd; exact absurd hd (by simp)
      | some d =>
        rw [hc, Option.map_some] at hd
        simp only [Option.some.injEq] at hd
        obtain ⟨d1, d2⟩ := dgt_of hc
        cases t with
        | nil =>
          simp only [decFrom, Option.some.injEq] at ht
          rw [dec_small (by omega), show m = d by omega, d2]; rfl
        | cons b r =>
          have hb : b.toNat ≠ 48 := hh b (r ++ [c]) rfl (by simp)
          have hm : 1 ≤ m' := by
            simp only [decFrom] at ht
            split at ht
            · rename_i e he
              obtain ⟨g1, g2, g3⟩ := Lib.digitVal_eq he
              have := decFrom_mono _ _ _ ht
              omega
            · exact absurd ht (by simp)
          have ih := dec_of k (b :: r) m' (by simp at hk ⊢; omega) (by simp) (fun c' r' e hr => by cases e; exact hb) ht
          rw [dec_big (by omega), show m / 10 = m' by omega, show m % 10 = d by omega, ih, d2]
theorem itoa_nat (u : Nat) : itoa (u : Int) = decDigits u := Lib.itoa_nonneg u
/-- a number as text, read again -/
theorem num_of_itoa (u : Nat) (h : (decDigits u).length ≤ 18) : atZ (itoa u) = u ∧ atE (itoa u) = false := by
  obtain ⟨c, r, hc⟩ : ∃ c r, decDigits u = c :: r := by
    cases hd : decDigits u with
    | nil => exact absurd hd (dec_ne u)
    | cons c r => exact ⟨c, r, rfl⟩
  have hcd := dec_digit u c (by rw [hc]; simp)
  have h1 : Lib.atoiAll (itoa u) = .ok (u : Int) := by
    rw [itoa_nat, Lib.atoiAll_short _ h, hc]
    show Lib.NumEnd.ofOption (if (c == 45) = true then (decNat r).map (fun (m : Nat) => -(m : Int)) else if (c == 43) = true then (decNat r).map (fun (m : Nat) => (m : Int)) else (decNat (c :: r)).map (fun (m : Nat) => (m : Int))) = _
    rw [if_neg (by rw [beq_iff_eq]; intro e; subst e; revert hcd; decide), if_neg (by rw [beq_iff_eq]; intro e; subst e; revert hcd; decide), ← hc]
    unfold decNat
    rw [if_neg (by rw [hc]; simp), dec_back]; rfl
  unfold atZ atE
  rw [h1]; exact ⟨rfl, rfl⟩
theorem nmB_itoa (u : Nat) (h : (decDigits u).length ≤ 5) : nmB (itoa u) = true ∧ atZ (itoa u) = u := by
  obtain ⟨h1, h2⟩ := num_of_itoa u (by omega)
  refine ⟨?_, h1⟩
  unfold nmB
  rw [h2, h1, decide_eq_true (by rw [itoa_nat]; exact h), beq_self_eq_true, decide_eq_true (by omega)]; rfl
theorem nmB_eq {s : List UInt8} (h : nmB s = true) : s = itoa (atZ s) ∧ 0 ≤ atZ s ∧ s.length ≤ 5 := by
  unfold nmB at h
  simp only [Bool.and_eq_true, decide_eq_true_eq, beq_iff_eq] at h
  exact ⟨h.2.2.1.symm, h.2.2.2, h.2.1⟩
theorem nmR_itoa (u : Nat) (h : (decDigits u).length ≤ 5) : nmR (itoa u) = u := by
  rw [itoa_nat]
  have e : nmN (decDigits u) 0 = u := by
    have := nmN_dec (decDigits u) 0
    rw [dec_back] at this; exact this
  have hz : ∀ c r, decDigits u = c :: r → (decide ((c :: r).length > 1) && decide (c = 48)) = false := by
    intro c r hc
    by_cases hu : u < 10
    · rw [dec_small hu] at hc; cases hc; rfl
    · obtain ⟨c', r', h1, h2⟩ := dec_head u (by omega)
      rw [h1] at hc
      cases hc
      rw [decide_eq_false (show ¬ c = 48 from fun e => h2 (by rw [e]; rfl)), Bool.and_false]
  cases hc : decDigits u with
  | nil => exact absurd hc (dec_ne u)
  | cons c r =>
    rw [hc] at h e
    rw [nmR.eq_def, decide_eq_false (show ¬ (c :: r).length < 1 by simp), cond_false, decide_eq_false (show ¬ (c :: r).length > 5 by omega), cond_false]
    show (bif decide ((c :: r).length > 1) && decide (c = 48) then -1 else nmN (c :: r) 0) = _
    rw [hz c r hc, cond_false, e]
theorem nmR_pos {s : List UInt8} (h : nmR s ≠ -1) : ∃ u : Nat, s = itoa u ∧ nmR s = u ∧ s.length ≤ 5 := by
  cases s with
  | nil => exact absurd rfl h
  | cons c r =>
    have e : nmR (c :: r) = bif decide ((c :: r).length > 5) then -1 else bif (decide ((c :: r).length > 1) && decide (c = 48)) then -1 else nmN (c :: r) 0 := by
      rw [nmR.eq_def, decide_eq_false (show ¬ (c :: r).length < 1 by simp)]; rfl
    rw [e] at h ⊢
    cases h2 : decide ((c :: r).length > 5) with
    | true => rw [h2] at h; exact absurd rfl h
    | false =>
    cases h3 : (decide ((c :: r).length > 1) && decide (c = 48)) with
    | true => rw [h2, h3] at h; exact absurd rfl h
    | false =>
    rw [h2, h3] at h
    simp only [cond_false] at h ⊢
    have hn := nmN_dec (c :: r) 0
    rw [show ((0 : Nat) : Int) = 0 from rfl] at hn
    rw [hn] at h ⊢
    cases hd : decFrom 0 (c :: r) with
    | none => rw [hd] at h; exact absurd rfl h
    | some m =>
      refine ⟨m, ?_, rfl, by have := of_decide_eq_false h2; omega⟩
      rw [itoa_nat]
      refine (dec_of _ (c :: r) m rfl (by simp) (fun c' r' e hr hc => ?_) hd).symm
      cases e
      have h48 : c = 48 := UInt8.toNat_inj.1 (by rw [hc]; rfl)
      subst h48
      cases r with
      | nil => exact hr rfl
      | cons b q => simp at h3
/-- the program's numbers and the document's -/
theorem nmR_nmB (s : List UInt8) : nmR s = bif nmB s then atZ s else -1 := by
  cases hb : nmB s with
  | true =>
    obtain ⟨h1, h2, h3⟩ := nmB_eq hb
    obtain ⟨u, hu⟩ := Int.eq_ofNat_of_zero_le h2
    rw [cond_true, hu]
    rw [hu] at h1
    have := nmR_itoa u (by rw [← itoa_nat]; rw [h1] at h3; exact h3)
    rw [← h1] at this; exact this
  | false =>
    rw [cond_false]
    by_cases h : nmR s = -1
    · exact h
    · obtain ⟨u, h1, h2, h3⟩ := nmR_pos h
      have := (nmB_itoa u (by rw [← itoa_nat, ← h1]; exact h3)).1
      rw [← h1, hb] at this
      exact absurd this (by simp)
end Go.Proofs.YtjbemleloffafaaGreatDoor.V

/- RulesTexts, RulesBack: a rule's text, and the rule that a text is: plain law. -/
namespace Go.Proofs.YtjbemleloffafaaGreatDoor.V
open Go
set_option linter.unusedVariables false
set_option linter.unusedSimpArgs false
open Go.Lib (decFrom decDigits digitVal decNat itoa)
def wPre : List UInt8 := [112, 114, 101, 102, 105, 120, 61]
def wTag : List UInt8 := [116, 97, 103, 115, 61]
def wDay : List UInt8 := [100, 97, 121, 115, 61]
def wOld : List UInt8 := [111, 108, 100, 61]
def wMar : List UInt8 := [109, 97, 114, 107, 101, 114, 115, 61]
def mkW (b : Bool) : List UInt8 := bif b then [49] else [48]
def rtW (r : D) : List (List UInt8) := [wPre ++ escV (rPre r), wTag ++ txS (rTg r), wDay ++ itoa (rDays r), wOld ++ itoa (rOld r), wMar ++ mkW (rMk r)]
def rtS (r : D) : List UInt8 := bif rGood r then Lib.join (rtW r) [32] else []
def rtE (r : D) : Int := bif rGood r then 0 else 2
def ruD (p : List UInt8) (c : Cp) (t : List D) (a b : Int) (m : Bool) : D := .agg [.str p, .slice c t, .int .i64 a, .int .i64 b, .bool m]
def ru0 : D := ruD [] .nl [] 0 0 false
def okM (e : List UInt8) : Bool := e == [48] || e == [49]
/-- a text's five parts, cut -/
def cut5 : List (List UInt8) → Option (List UInt8 × List UInt8 × List UInt8 × List UInt8 × List UInt8)
  | [a, b, c, d, e] => bif hpB a wPre && (hpB b wTag && (hpB c wDay && (hpB d wOld && hpB e wMar))) then some (a.drop 7, b.drop 5, c.drop 5, d.drop 4, e.drop 8) else none
  | _ => none
def rp5 : List UInt8 × List UInt8 × List UInt8 × List UInt8 × List UInt8 → Int × D
  | (a, b, c, d, e) => bif unE a == 0 && (nmB c && (nmB d && okM e)) then
      (bif psE b == 0 then (bif rGood (ruD (unS a) .any (psL b) (atZ c) (atZ d) (e == [49])) then (0, ruD (unS a) .any (psL b) (atZ c) (atZ d) (e == [49])) else (2, ru0)) else (psE b, ru0)) else (5, ru0)
def rpQ (l : List (List UInt8)) : Int × D := match cut5 l with | some q => rp5 q | none => (5, ru0)
def rpE (s : List UInt8) : Int := (rpQ (spl 32 s)).1
def rpD (s : List UInt8) : D := (rpQ (spl 32 s)).2

theorem tx_no32 (l : List D) : ∀ c ∈ txS l, c ≠ 32 := by
  have hp : ∀ t : D, ∀ c ∈ ptT t, c ≠ 32 := by
    intro t c hc
    unfold ptT at hc
    rw [List.mem_append, List.mem_cons] at hc
    rcases hc with hc | rfl | hc
    · exact okB32 (List.all_eq_true.1 (esc_all _) c hc)
    · decide
    · exact okB32 (List.all_eq_true.1 (esc_all _) c hc)
  have hj : ∀ l : List D, ∀ c ∈ joinT l, c ≠ 32 := by
    intro l
    induction l with
    | nil => intro c hc; simp [joinT, Lib.join, List.intercalate] at hc
    | cons t r ih =>
      intro c hc
      cases r with
      | nil => unfold joinT at hc; rw [List.map_cons, List.map_nil, Lib.join_one] at hc; exact hp t c hc
      | cons x q =>
        unfold joinT at hc
        rw [List.map_cons, join_cons _ (by simp), List.append_assoc, List.mem_append] at hc
        rcases hc with hc | hc
        · exact hp t c hc
        · rw [List.mem_append, List.mem_singleton] at hc
          rcases hc with rfl | hc
          · decide
          · exact ih c hc
  unfold txS
  cases tsB l with
  | true => exact hj l
  | false => intro c hc; exact absurd hc (by simp)
theorem itoa_no32 (u : Nat) : ∀ c ∈ itoa (u : Int), c ≠ 32 := by
  intro c hc e
  rw [itoa_nat] at hc
  have := dec_digit u c hc
  rw [e] at this
  exact absurd this (by decide)
theorem mk_no32 (b : Bool) : ∀ c ∈ mkW b, c ≠ 32 := by cases b <;> decide
theorem pre_no32 {p x : List UInt8} (hp : ∀ c ∈ p, c ≠ 32) (hx : ∀ c ∈ x, c ≠ 32) : ∀ c ∈ p ++ x, c ≠ 32 := fun c hc => (List.mem_append.1 hc).elim (hp c) (hx c)
theorem hp_app (p x : List UInt8) : hpB (p ++ x) p = true := by
  unfold hpB
  rw [decide_eq_true (by simp), List.take_left']; simp
  rfl
theorem hp_eq {s p : List UInt8} (h : hpB s p = true) : s = p ++ s.drop p.length := by
  unfold hpB at h
  simp only [Bool.and_eq_true, beq_iff_eq] at h
  have h2 := List.take_append_drop p.length s
  rw [h.2] at h2
  exact h2.symm
theorem join5 (a b c d e : List UInt8) : Lib.join [a, b, c, d, e] [32] = a ++ 32 :: (b ++ 32 :: (c ++ 32 :: (d ++ 32 :: e))) := by
  simp [Lib.join, List.intercalate]
theorem spl_join5 {a b c d e : List UInt8} (ha : ∀ x ∈ a, x ≠ 32) (hb : ∀ x ∈ b, x ≠ 32) (hc : ∀ x ∈ c, x ≠ 32) (hd : ∀ x ∈ d, x ≠ 32) (he : ∀ x ∈ e, x ≠ 32) : spl 32 (Lib.join [a, b, c, d, e] [32]) = [a, b, c, d, e] := by
  rw [join5, spl_app 32 _ _ ha, spl_app 32 _ _ hb, spl_app 32 _ _ hc, spl_app 32 _ _ hd, spl_one 32 _ he]
theorem dec_len : ∀ (k u : Nat), u < 10 ^ (k + 1) → (decDigits u).length ≤ k + 1
  | 0, u, h => by rw [dec_small (by simpa using h)]; simp
  | k + 1, u, h => by
    by_cases hu : u < 10
    · rw [dec_small hu]; simp
    · rw [dec_big hu, List.length_append, List.length_singleton]
      have := dec_len k (u / 10) (by rw [Nat.pow_succ] at h; omega)
      omega
theorem mkw_ok (b : Bool) : okM (mkW b) = true ∧ (mkW b == [49]) = b := by cases b <;> decide
theorem mk_of {e : List UInt8} (h : okM e = true) : mkW (e == [49]) = e := by
  unfold okM at h
  cases h1 : (e == [49]) with
  | true => exact (eq_of_beq h1).symm
  | false => rw [h1, Bool.or_false] at h; exact (eq_of_beq h).symm
theorem sameT_self (t : List D) : sameT t t = true := by unfold sameT; exact beq_self_eq_true _
theorem good_ruD {p : List UInt8} {c : Cp} {t : List D} {a b : Int} {m : Bool} (h : rGood (ruD p c t a b m) = true) : p.length ≤ 200 ∧ tsB t = true ∧ 0 ≤ a ∧ a ≤ 36500 ∧ 0 ≤ b ∧ b ≤ 36500 := by
  unfold ruD rGood at h
  simp only [Bool.and_eq_true, decide_eq_true_eq] at h
  exact ⟨h.1, h.2.2.1, h.2.2.2.1, h.2.2.2.2.1, h.2.2.2.2.2.1, h.2.2.2.2.2.2⟩
theorem good_cp (p : List UInt8) (c c' : Cp) (t : List D) (a b : Int) (m : Bool) : rGood (ruD p c t a b m) = rGood (ruD p c' t a b m) := rfl
theorem num_ok {a : Int} (h0 : 0 ≤ a) (h1 : a ≤ 36500) : nmB (itoa a) = true ∧ atZ (itoa a) = a ∧ (∀ c ∈ itoa a, c ≠ 32) ∧ (itoa a).length ≤ 5 := by
  obtain ⟨u, rfl⟩ := Int.eq_ofNat_of_zero_le h0
  have hl : (decDigits u).length ≤ 5 := dec_len 4 u (by omega)
  obtain ⟨e1, e2⟩ := nmB_itoa u hl
  exact ⟨e1, e2, itoa_no32 u, by rw [itoa_nat]; exact hl⟩
/-- what is written is read as it was -/
theorem rule_read {p : List UInt8} {c : Cp} {t : List D} {a b : Int} {m : Bool} (ht : t.all isT = true) (h : rGood (ruD p c t a b m) = true) : rpQ (spl 32 (rtS (ruD p c t a b m))) = (0, ruD p .any t a b m) := by
  obtain ⟨h1, h2, h3, h4, h5, h6⟩ := good_ruD h
  obtain ⟨a1, a2, a3, _⟩ := num_ok h3 h4
  obtain ⟨b1, b2, b3, _⟩ := num_ok h5 h6
  obtain ⟨e1, e2⟩ := un_escE p
  obtain ⟨t1, t2⟩ := read_written ht h2
  obtain ⟨m1, m2⟩ := mkw_ok m
  have hs : spl 32 (rtS (ruD p c t a b m)) = [wPre ++ escV p, wTag ++ txS t, wDay ++ itoa a, wOld ++ itoa b, wMar ++ mkW m] := by
    unfold rtS
    rw [h, cond_true]
    show spl 32 (Lib.join [wPre ++ escV p, wTag ++ txS t, wDay ++ itoa a, wOld ++ itoa b, wMar ++ mkW m] [32]) = _
    exact spl_join5 (pre_no32 (by decide) fun c hc => okB32 (List.all_eq_true.1 (esc_all p) c hc)) (pre_no32 (by decide) (tx_no32 t)) (pre_no32 (by decide) a3) (pre_no32 (by decide) b3) (pre_no32 (by decide) (mk_no32 m))
  rw [hs]
  unfold rpQ cut5
  simp only
  rw [hp_app, hp_app, hp_app, hp_app, hp_app]
  show rp5 (escV p, txS t, itoa a, itoa b, mkW m) = _
  unfold rp5
  simp only
  rw [e1, e2, a1, a2, b1, b2, t1, t2, m1, m2, good_cp p .any c, h]
  rfl
/-- what is read is written so -/
theorem rule_written {s : List UInt8} (h : rpE s = 0) : rGood (rpD s) = true ∧ rtS (rpD s) = s := by
  have hj := join_spl 32 s
  unfold rpE at h
  unfold rpD
  unfold rpQ at h ⊢
  cases hc : cut5 (spl 32 s) with
  | none => rw [hc] at h; exact absurd h (by decide)
  | some q =>
    rw [hc] at h
    simp only at h ⊢
    unfold cut5 at hc
    split at hc
    · rename_i a b c d e hs
      obtain ⟨hh, hc⟩ := cond_some hc
      cases hc
      simp only [Bool.and_eq_true] at hh
      obtain ⟨p1, p2, p3, p4, p5⟩ := hh
      unfold rp5 at h ⊢
      simp only at h ⊢
      cases ho : (unE (List.drop 7 a) == 0 && (nmB (List.drop 5 c) && (nmB (List.drop 4 d) && okM (List.drop 8 e)))) with
      | false => rw [ho, cond_false] at h; exact absurd (show (5 : Int) = 0 from h) (by decide)
      | true =>
        rw [ho] at h
        simp only [cond_true] at h ⊢
        cases hp : psE (List.drop 5 b) == 0 with
        | false => rw [hp] at h; simp only [cond_false] at h; rw [h] at hp; exact absurd hp (by decide)
        | true =>
          rw [hp] at h
          simp only [cond_true] at h ⊢
          cases hg : rGood (ruD (unS (List.drop 7 a)) .any (psL (List.drop 5 b)) (atZ (List.drop 5 c)) (atZ (List.drop 4 d)) (List.drop 8 e == [49])) with
          | false => rw [hg, cond_false] at h; exact absurd (show (2 : Int) = 0 from h) (by decide)
          | true =>
            simp only [cond_true]
            refine ⟨hg, ?_⟩
            unfold rtS
            rw [hg, cond_true]
            show Lib.join [wPre ++ escV (unS (List.drop 7 a)), wTag ++ txS (psL (List.drop 5 b)), wDay ++ itoa (atZ (List.drop 5 c)), wOld ++ itoa (atZ (List.drop 4 d)), wMar ++ mkW (List.drop 8 e == [49])] [32] = s
            simp only [Bool.and_eq_true, beq_iff_eq] at ho
            obtain ⟨o1, o2, o3, o4⟩ := ho
            rw [esc_unS o1, (written_read (eq_of_beq hp)).2, ← (nmB_eq o2).1, ← (nmB_eq o3).1, mk_of o4]
            have q1 : wPre ++ List.drop 7 a = a := (hp_eq p1).symm
            have q2 : wTag ++ List.drop 5 b = b := (hp_eq p2).symm
            have q3 : wDay ++ List.drop 5 c = c := (hp_eq p3).symm
            have q4 : wOld ++ List.drop 4 d = d := (hp_eq p4).symm
            have q5 : wMar ++ List.drop 8 e = e := (hp_eq p5).symm
            rw [q1, q2, q3, q4, q5, ← hs]
            exact hj
    · exact absurd hc (by simp)
/-! ### sizes -/
theorem short_rt (r : D) (hr : rC r = true) : short (rtS r) = true := by
  obtain ⟨p, c, t, a, b, m, rfl, _, _⟩ := rC_ex hr
  unfold rtS
  cases hg : rGood (.agg [.str p, .slice c t, .int .i64 a, .int .i64 b, .bool m]) with
  | false => rfl
  | true =>
    obtain ⟨h1, h2, h3, h4, h5, h6⟩ := good_ruD (p := p) (c := c) (t := t) (a := a) (b := b) (m := m) hg
    have l1 := esc_len p
    have l2 : (txS t).length ≤ 4190000 := by
      unfold txS
      rw [h2, cond_true]
      have g1 := joinT_len (ts_good h2)
      have g2 := ts_len h2
      omega
    have l3 := (num_ok h3 h4).2.2.2
    have l4 := (num_ok h5 h6).2.2.2
    have l5 : (mkW m).length = 1 := by cases m <;> rfl
    refine short_of ?_
    show (Lib.join [wPre ++ escV p, wTag ++ txS t, wDay ++ itoa a, wOld ++ itoa b, wMar ++ mkW m] [32]).length ≤ 4194304
    rw [join5]
    simp only [List.length_append, List.length_cons, wPre, wTag, wDay, wOld, wMar, List.length_nil]
    omega
theorem rC_rp {s : List UInt8} (h : short s = true) : rC (rpD s) = true := by
  have hl := short_le h
  unfold rpD rpQ
  cases hc : cut5 (spl 32 s) with
  | none => rfl
  | some q =>
    simp only
    unfold cut5 at hc
    split at hc
    · rename_i a b c d e hs
      obtain ⟨_, hc⟩ := cond_some hc
      cases hc
      have la := spl_len 32 s a (by rw [hs]; simp)
      have lb := spl_len 32 s b (by rw [hs]; simp)
      unfold rp5
      simp only
      cases (unE (List.drop 7 a) == 0 && (nmB (List.drop 5 c) && (nmB (List.drop 4 d) && okM (List.drop 8 e)))) with
      | false => rfl
      | true =>
        cases psE (List.drop 5 b) == 0 with
        | false => rfl
        | true =>
          simp only [cond_true]
          cases rGood (ruD (unS (List.drop 7 a)) .any (psL (List.drop 5 b)) (atZ (List.drop 5 c)) (atZ (List.drop 4 d)) (List.drop 8 e == [49])) with
          | false => rfl
          | true =>
            have u := unS_len (List.drop 7 a)
            have e1 : short (unS (List.drop 7 a)) = true := short_of (by rw [List.length_drop] at u; omega)
            have e2 : tC (psL (List.drop 5 b)) = true := tC_ps (short_of (by rw [List.length_drop]; omega))
            show (short (unS (List.drop 7 a)) && tC (psL (List.drop 5 b))) = true
            rw [e1, e2]; rfl
    · exact absurd hc (by simp)
end Go.Proofs.YtjbemleloffafaaGreatDoor.V

/- RulesTexts, RulesBack: what the machine over values makes of the functions: equations, written by program. -/
namespace Go.Proofs.YtjbemleloffafaaGreatDoor.V
open Go
set_option maxRecDepth 100000
set_option linter.unusedVariables false
set_option linter.unusedSimpArgs false
variable {mx : Int}
def dayB (n : Int) : Bool := decide (0 ≤ n) && decide (n ≤ 36500)
def spDay : List AV → Option (Bool × AV)
  | [.i .i64 n] => some (dayB n, .s (Lib.itoa n))
  | _ => none
def xWds : List AV → Objs → Option (Bool × AV × Objs)
  | [.s s], [] => some (short s, .ref 9 0, [some (.arr 9 (splitC 32 s) false)])
  | _, _ => none
theorem z29 (lab : Lab) (n : Int) : evF (ΓN mx) (runS []) lab 29 [.i .i64 n] [] =
  kBytes [D.int .u8 (IntKind.wrap .u8 (IntKind.wrap .i64 (48 + (Int.tmod n 10))))] fun s1 => lab (todoAt (ΓN mx) 29 2) ⟨[(0, .i .i64 n), (3, .s s1)], []⟩ := by kernel_rfl
theorem z29_2a (lab : Lab) (n1 : Int) (s2 : List UInt8) : evL (ΓN mx) (runS []) lab 29 2 ⟨[(0, .i .i64 n1), (3, .s s2)], []⟩ =
  bif decide (n1 ≥ 10) then (kBytes [D.int .u8 (IntKind.wrap .u8 (IntKind.wrap .i64 (48 + (Int.tmod (IntKind.wrap .i64 (Int.tdiv n1 10)) 10))))] fun s3 => bif decide (List.length s3 + List.length s2 ≤ maxStr) then (lab (todoAt (ΓN mx) 29 2) ⟨[(0, .i .i64 (IntKind.wrap .i64 (Int.tdiv n1 10))), (3, .s (s3 ++ s2))], []⟩) else none) else (some (.s s2, [])) := by kernel_rfl
theorem z35 (lab : Lab) (s : List UInt8) : evF (ΓN mx) (runS []) lab 35 [.s s] [] =
  lab (todoAt (ΓN mx) 35 3) ⟨[(0, .s s), (3, .ref 9 0), (4, .i .i64 0)], [some (.arr 9 [D.str ([] : List UInt8)] false)]⟩ := by kernel_rfl
theorem z35_3a (lab : Lab) (s1 : List UInt8) (n2 : Int) (l3 : List D) : evL (ΓN mx) (runS []) lab 35 3 ⟨[(0, .s s1), (3, .ref 9 0), (4, .i .i64 n2)], [some (.arr 9 l3 false)]⟩ =
  bif decide (n2 < ((List.length s1 : Int))) then (idx s1 n2 fun c4 => bif ((c4.toNat : Int)) == 32 then (bif roomB (l3.length + 1) 16 then (lab (todoAt (ΓN mx) 35 3) ⟨[(0, .s s1), (3, .ref 9 0), (4, .i .i64 (IntKind.wrap .i64 (n2 + 1)))], [some (.arr 9 (l3 ++ [D.str ([] : List UInt8)]) false)]⟩) else none) else (bif decide ((0:Int) ≤ (IntKind.wrap .i64 (((l3.length : Int)) - 1))) && decide ((IntKind.wrap .i64 (((l3.length : Int)) - 1)) < (l3.length : Int)) then (lGet l3 (Int.toNat (IntKind.wrap .i64 (((l3.length : Int)) - 1))) fun y5 => dStr y5 fun s6 => bif decide ((0:Int) ≤ (IntKind.wrap .i64 (n2 + 1))) && decide ((IntKind.wrap .i64 (n2 + 1)) ≤ (List.length s1 : Int)) then (bif decide ((0:Int) ≤ n2) && decide (n2 ≤ (Int.toNat (IntKind.wrap .i64 (n2 + 1)) : Int)) then (bif decide (List.length s6 + List.length (List.take ((Int.toNat (IntKind.wrap .i64 (n2 + 1))) - (Int.toNat n2)) (List.drop (Int.toNat n2) s1)) ≤ maxStr) then (bif decide ((0:Int) ≤ (IntKind.wrap .i64 (((l3.length : Int)) - 1))) && decide ((IntKind.wrap .i64 (((l3.length : Int)) - 1)) < (l3.length : Int)) then (lGet l3 (Int.toNat (IntKind.wrap .i64 (((l3.length : Int)) - 1))) fun y7 => lab (todoAt (ΓN mx) 35 3) ⟨[(0, .s s1), (3, .ref 9 0), (4, .i .i64 (IntKind.wrap .i64 (n2 + 1)))], [some (.arr 9 (List.set l3 (Int.toNat (IntKind.wrap .i64 (((l3.length : Int)) - 1))) (D.str (s6 ++ (List.take ((Int.toNat (IntKind.wrap .i64 (n2 + 1))) - (Int.toNat n2)) (List.drop (Int.toNat n2) s1))))) false)]⟩) else none) else none) else none) else none) else none)) else (some (.ref 9 0, [some (.arr 9 l3 false)])) := by kernel_rfl
def Z10 : Handle := runS [⟨16, dat (spL1 35 rsC fun l => .b (rsB l))⟩, ⟨27, dat (spL1s 84 tC fun l => .tuple [.s (txS l), .i .i64 (txE l)])⟩, ⟨28, dat (sp1 short fun p => .s (escV p))⟩, ⟨29, dat spDay⟩]
theorem z10 (lab : Lab) (rp : List UInt8) (rc : Cp) (rt : List D) (rd : Int) (ro : Int) (rm : Bool) : evF (ΓN mx) Z10 lab 10 [.d 35 (D.agg [D.str rp, D.slice rc rt, D.int .i64 rd, D.int .i64 ro, D.bool rm])] [] =
  bif rsC ([D.agg [D.str rp, D.slice rc rt, D.int .i64 rd, D.int .i64 ro, D.bool rm]]) then (bif !(rsB ([D.agg [D.str rp, D.slice rc rt, D.int .i64 rd, D.int .i64 ro, D.bool rm]])) then (some (.tuple [.s ([] : List UInt8), .i .i64 2], [])) else (bif tC rt then (bif rm then (bif short rp then (bif decide (List.length ([112, 114, 101, 102, 105, 120, 61] : List UInt8) + List.length (escV rp) ≤ maxStr) then (bif decide (List.length (([112, 114, 101, 102, 105, 120, 61] : List UInt8) ++ (escV rp)) + List.length ([32, 116, 97, 103, 115, 61] : List UInt8) ≤ maxStr) then (bif decide (List.length ((([112, 114, 101, 102, 105, 120, 61] : List UInt8) ++ (escV rp)) ++ ([32, 116, 97, 103, 115, 61] : List UInt8)) + List.length (txS rt) ≤ maxStr) then (bif decide (List.length (((([112, 114, 101, 102, 105, 120, 61] : List UInt8) ++ (escV rp)) ++ ([32, 116, 97, 103, 115, 61] : List UInt8)) ++ (txS rt)) + List.length ([32, 100, 97, 121, 115, 61] : List UInt8) ≤ maxStr) then (bif dayB rd then (bif decide (List.length ((((([112, 114, 101, 102, 105, 120, 61] : List UInt8) ++ (escV rp)) ++ ([32, 116, 97, 103, 115, 61] : List UInt8)) ++ (txS rt)) ++ ([32, 100, 97, 121, 115, 61] : List UInt8)) + List.length (Lib.itoa rd) ≤ maxStr) then (bif decide (List.length (((((([112, 114, 101, 102, 105, 120, 61] : List UInt8) ++ (escV rp)) ++ ([32, 116, 97, 103, 115, 61] : List UInt8)) ++ (txS rt)) ++ ([32, 100, 97, 121, 115, 61] : List UInt8)) ++ (Lib.itoa rd)) + List.length ([32, 111, 108, 100, 61] : List UInt8) ≤ maxStr) then (bif dayB ro then (bif decide (List.length ((((((([112, 114, 101, 102, 105, 120, 61] : List UInt8) ++ (escV rp)) ++ ([32, 116, 97, 103, 115, 61] : List UInt8)) ++ (txS rt)) ++ ([32, 100, 97, 121, 115, 61] : List UInt8)) ++ (Lib.itoa rd)) ++ ([32, 111, 108, 100, 61] : List UInt8)) + List.length (Lib.itoa ro) ≤ maxStr) then (bif decide (List.length (((((((([112, 114, 101, 102, 105, 120, 61] : List UInt8) ++ (escV rp)) ++ ([32, 116, 97, 103, 115, 61] : List UInt8)) ++ (txS rt)) ++ ([32, 100, 97, 121, 115, 61] : List UInt8)) ++ (Lib.itoa rd)) ++ ([32, 111, 108, 100, 61] : List UInt8)) ++ (Lib.itoa ro)) + List.length ([32, 109, 97, 114, 107, 101, 114, 115, 61] : List UInt8) ≤ maxStr) then (bif decide (List.length ((((((((([112, 114, 101, 102, 105, 120, 61] : List UInt8) ++ (escV rp)) ++ ([32, 116, 97, 103, 115, 61] : List UInt8)) ++ (txS rt)) ++ ([32, 100, 97, 121, 115, 61] : List UInt8)) ++ (Lib.itoa rd)) ++ ([32, 111, 108, 100, 61] : List UInt8)) ++ (Lib.itoa ro)) ++ ([32, 109, 97, 114, 107, 101, 114, 115, 61] : List UInt8)) + List.length ([49] : List UInt8) ≤ maxStr) then (some (.tuple [.s (((((((((([112, 114, 101, 102, 105, 120, 61] : List UInt8) ++ (escV rp)) ++ ([32, 116, 97, 103, 115, 61] : List UInt8)) ++ (txS rt)) ++ ([32, 100, 97, 121, 115, 61] : List UInt8)) ++ (Lib.itoa rd)) ++ ([32, 111, 108, 100, 61] : List UInt8)) ++ (Lib.itoa ro)) ++ ([32, 109, 97, 114, 107, 101, 114, 115, 61] : List UInt8)) ++ ([49] : List UInt8)), .i .i64 0], [])) else none) else none) else none) else none) else none) else none) else none) else none) else none) else none) else none) else none) else (bif short rp then (bif decide (List.length ([112, 114, 101, 102, 105, 120, 61] : List UInt8) + List.length (escV rp) ≤ maxStr) then (bif decide (List.length (([112, 114, 101, 102, 105, 120, 61] : List UInt8) ++ (escV rp)) + List.length ([32, 116, 97, 103, 115, 61] : List UInt8) ≤ maxStr) then (bif decide (List.length ((([112, 114, 101, 102, 105, 120, 61] : List UInt8) ++ (escV rp)) ++ ([32, 116, 97, 103, 115, 61] : List UInt8)) + List.length (txS rt) ≤ maxStr) then (bif decide (List.length (((([112, 114, 101, 102, 105, 120, 61] : List UInt8) ++ (escV rp)) ++ ([32, 116, 97, 103, 115, 61] : List UInt8)) ++ (txS rt)) + List.length ([32, 100, 97, 121, 115, 61] : List UInt8) ≤ maxStr) then (bif dayB rd then (bif decide (List.length ((((([112, 114, 101, 102, 105, 120, 61] : List UInt8) ++ (escV rp)) ++ ([32, 116, 97, 103, 115, 61] : List UInt8)) ++ (txS rt)) ++ ([32, 100, 97, 121, 115, 61] : List UInt8)) + List.length (Lib.itoa rd) ≤ maxStr) then (bif decide (List.length (((((([112, 114, 101, 102, 105, 120, 61] : List UInt8) ++ (escV rp)) ++ ([32, 116, 97, 103, 115, 61] : List UInt8)) ++ (txS rt)) ++ ([32, 100, 97, 121, 115, 61] : List UInt8)) ++ (Lib.itoa rd)) + List.length ([32, 111, 108, 100, 61] : List UInt8) ≤ maxStr) then (bif dayB ro then (bif decide (List.length ((((((([112, 114, 101, 102, 105, 120, 61] : List UInt8) ++ (escV rp)) ++ ([32, 116, 97, 103, 115, 61] : List UInt8)) ++ (txS rt)) ++ ([32, 100, 97, 121, 115, 61] : List UInt8)) ++ (Lib.itoa rd)) ++ ([32, 111, 108, 100, 61] : List UInt8)) + List.length (Lib.itoa ro) ≤ maxStr) then (bif decide (List.length (((((((([112, 114, 101, 102, 105, 120, 61] : List UInt8) ++ (escV rp)) ++ ([32, 116, 97, 103, 115, 61] : List UInt8)) ++ (txS rt)) ++ ([32, 100, 97, 121, 115, 61] : List UInt8)) ++ (Lib.itoa rd)) ++ ([32, 111, 108, 100, 61] : List UInt8)) ++ (Lib.itoa ro)) + List.length ([32, 109, 97, 114, 107, 101, 114, 115, 61] : List UInt8) ≤ maxStr) then (bif decide (List.length ((((((((([112, 114, 101, 102, 105, 120, 61] : List UInt8) ++ (escV rp)) ++ ([32, 116, 97, 103, 115, 61] : List UInt8)) ++ (txS rt)) ++ ([32, 100, 97, 121, 115, 61] : List UInt8)) ++ (Lib.itoa rd)) ++ ([32, 111, 108, 100, 61] : List UInt8)) ++ (Lib.itoa ro)) ++ ([32, 109, 97, 114, 107, 101, 114, 115, 61] : List UInt8)) + List.length ([48] : List UInt8) ≤ maxStr) then (some (.tuple [.s (((((((((([112, 114, 101, 102, 105, 120, 61] : List UInt8) ++ (escV rp)) ++ ([32, 116, 97, 103, 115, 61] : List UInt8)) ++ (txS rt)) ++ ([32, 100, 97, 121, 115, 61] : List UInt8)) ++ (Lib.itoa rd)) ++ ([32, 111, 108, 100, 61] : List UInt8)) ++ (Lib.itoa ro)) ++ ([32, 109, 97, 114, 107, 101, 114, 115, 61] : List UInt8)) ++ ([48] : List UInt8)), .i .i64 0], [])) else none) else none) else none) else none) else none) else none) else none) else none) else none) else none) else none) else none)) else none)) else none := by kernel_rfl
def Z11 : Handle := runS [⟨30, xSpl⟩, ⟨31, dat (sp2 (fun _ _ => true) fun a b => .tuple [.s (cpS a b), .b (hpB a b)])⟩, ⟨32, dat (sp1 short fun p => .tuple [.s (unS p), .i .i64 (unE p)])⟩, ⟨33, dat (sp1 short fun p => .tuple [.i .i64 (atZ p), .b (nmB p)])⟩, ⟨34, dat (sp1 short fun p => .tuple [.sl 84 .any (psL p), .i .i64 (psE p)])⟩, ⟨22, dat (spD1 35 rC fun r => .b (rGood r))⟩]
theorem z11 (lab : Lab) (s : List UInt8) : evF (ΓN mx) Z11 lab 11 [.s s] [] =
  bif s32 s then (bif (((splitC 32 s).length : Int)) != 5 then (some (.tuple [.d 35 (D.agg [D.str ([] : List UInt8), D.slice .nl [], D.int .i64 0, D.int .i64 0, D.bool false]), .i .i64 5], [])) else (lab (todoAt (ΓN mx) 11 5) ⟨[(2, .ptr 0 [] 35), (4, .ref 9 1), (23, .d 61 (D.agg [D.str ([112, 114, 101, 102, 105, 120, 61] : List UInt8), D.str ([116, 97, 103, 115, 61] : List UInt8), D.str ([100, 97, 121, 115, 61] : List UInt8), D.str ([111, 108, 100, 61] : List UInt8), D.str ([109, 97, 114, 107, 101, 114, 115, 61] : List UInt8)])), (24, .i .i64 0)], [some (.box 35 (.d 35 (D.agg [D.str ([] : List UInt8), D.slice .nl [], D.int .i64 0, D.int .i64 0, D.bool false]))), some (.arr 9 (splitC 32 s) false)]⟩)) else none := by kernel_rfl
theorem z11_5_0 (lab : Lab) (a : List UInt8) (b : List UInt8) (c : List UInt8) (d : List UInt8) (e : List UInt8) : evL (ΓN mx) Z11 lab 11 5 ⟨[(2, .ptr 0 [] 35), (4, .ref 9 1), (23, .d 61 (D.agg [D.str ([112, 114, 101, 102, 105, 120, 61] : List UInt8), D.str ([116, 97, 103, 115, 61] : List UInt8), D.str ([100, 97, 121, 115, 61] : List UInt8), D.str ([111, 108, 100, 61] : List UInt8), D.str ([109, 97, 114, 107, 101, 114, 115, 61] : List UInt8)])), (24, .i .i64 0)], [some (.box 35 (.d 35 (D.agg [D.str ([] : List UInt8), D.slice .nl [], D.int .i64 0, D.int .i64 0, D.bool false]))), some (.arr 9 [D.str a, D.str b, D.str c, D.str d, D.str e] false)]⟩ =
  bif !(hpB a ([112, 114, 101, 102, 105, 120, 61] : List UInt8)) then (some (.tuple [.d 35 (D.agg [D.str ([] : List UInt8), D.slice .nl [], D.int .i64 0, D.int .i64 0, D.bool false]), .i .i64 5], [])) else (lab (todoAt (ΓN mx) 11 5) ⟨[(2, .ptr 0 [] 35), (4, .ref 9 1), (23, .d 61 (D.agg [D.str ([112, 114, 101, 102, 105, 120, 61] : List UInt8), D.str ([116, 97, 103, 115, 61] : List UInt8), D.str ([100, 97, 121, 115, 61] : List UInt8), D.str ([111, 108, 100, 61] : List UInt8), D.str ([109, 97, 114, 107, 101, 114, 115, 61] : List UInt8)])), (24, .i .i64 1)], [some (.box 35 (.d 35 (D.agg [D.str ([] : List UInt8), D.slice .nl [], D.int .i64 0, D.int .i64 0, D.bool false]))), some (.arr 9 [D.str (cpS a ([112, 114, 101, 102, 105, 120, 61] : List UInt8)), D.str b, D.str c, D.str d, D.str e] false)]⟩) := by kernel_rfl
theorem z11_5_1 (lab : Lab) (a : List UInt8) (b : List UInt8) (c : List UInt8) (d : List UInt8) (e : List UInt8) : evL (ΓN mx) Z11 lab 11 5 ⟨[(2, .ptr 0 [] 35), (4, .ref 9 1), (23, .d 61 (D.agg [D.str ([112, 114, 101, 102, 105, 120, 61] : List UInt8), D.str ([116, 97, 103, 115, 61] : List UInt8), D.str ([100, 97, 121, 115, 61] : List UInt8), D.str ([111, 108, 100, 61] : List UInt8), D.str ([109, 97, 114, 107, 101, 114, 115, 61] : List UInt8)])), (24, .i .i64 1)], [some (.box 35 (.d 35 (D.agg [D.str ([] : List UInt8), D.slice .nl [], D.int .i64 0, D.int .i64 0, D.bool false]))), some (.arr 9 [D.str (cpS a ([112, 114, 101, 102, 105, 120, 61] : List UInt8)), D.str b, D.str c, D.str d, D.str e] false)]⟩ =
  bif !(hpB b ([116, 97, 103, 115, 61] : List UInt8)) then (some (.tuple [.d 35 (D.agg [D.str ([] : List UInt8), D.slice .nl [], D.int .i64 0, D.int .i64 0, D.bool false]), .i .i64 5], [])) else (lab (todoAt (ΓN mx) 11 5) ⟨[(2, .ptr 0 [] 35), (4, .ref 9 1), (23, .d 61 (D.agg [D.str ([112, 114, 101, 102, 105, 120, 61] : List UInt8), D.str ([116, 97, 103, 115, 61] : List UInt8), D.str ([100, 97, 121, 115, 61] : List UInt8), D.str ([111, 108, 100, 61] : List UInt8), D.str ([109, 97, 114, 107, 101, 114, 115, 61] : List UInt8)])), (24, .i .i64 2)], [some (.box 35 (.d 35 (D.agg [D.str ([] : List UInt8), D.slice .nl [], D.int .i64 0, D.int .i64 0, D.bool false]))), some (.arr 9 [D.str (cpS a ([112, 114, 101, 102, 105, 120, 61] : List UInt8)), D.str (cpS b ([116, 97, 103, 115, 61] : List UInt8)), D.str c, D.str d, D.str e] false)]⟩) := by kernel_rfl
theorem z11_5_2 (lab : Lab) (a : List UInt8) (b : List UInt8) (c : List UInt8) (d : List UInt8) (e : List UInt8) : evL (ΓN mx) Z11 lab 11 5 ⟨[(2, .ptr 0 [] 35), (4, .ref 9 1), (23, .d 61 (D.agg [D.str ([112, 114, 101, 102, 105, 120, 61] : List UInt8), D.str ([116, 97, 103, 115, 61] : List UInt8), D.str ([100, 97, 121, 115, 61] : List UInt8), D.str ([111, 108, 100, 61] : List UInt8), D.str ([109, 97, 114, 107, 101, 114, 115, 61] : List UInt8)])), (24, .i .i64 2)], [some (.box 35 (.d 35 (D.agg [D.str ([] : List UInt8), D.slice .nl [], D.int .i64 0, D.int .i64 0, D.bool false]))), some (.arr 9 [D.str (cpS a ([112, 114, 101, 102, 105, 120, 61] : List UInt8)), D.str (cpS b ([116, 97, 103, 115, 61] : List UInt8)), D.str c, D.str d, D.str e] false)]⟩ =
  bif !(hpB c ([100, 97, 121, 115, 61] : List UInt8)) then (some (.tuple [.d 35 (D.agg [D.str ([] : List UInt8), D.slice .nl [], D.int .i64 0, D.int .i64 0, D.bool false]), .i .i64 5], [])) else (lab (todoAt (ΓN mx) 11 5) ⟨[(2, .ptr 0 [] 35), (4, .ref 9 1), (23, .d 61 (D.agg [D.str ([112, 114, 101, 102, 105, 120, 61] : List UInt8), D.str ([116, 97, 103, 115, 61] : List UInt8), D.str ([100, 97, 121, 115, 61] : List UInt8), D.str ([111, 108, 100, 61] : List UInt8), D.str ([109, 97, 114, 107, 101, 114, 115, 61] : List UInt8)])), (24, .i .i64 3)], [some (.box 35 (.d 35 (D.agg [D.str ([] : List UInt8), D.slice .nl [], D.int .i64 0, D.int .i64 0, D.bool false]))), some (.arr 9 [D.str (cpS a ([112, 114, 101, 102, 105, 120, 61] : List UInt8)), D.str (cpS b ([116, 97, 103, 115, 61] : List UInt8)), D.str (cpS c ([100, 97, 121, 115, 61] : List UInt8)), D.str d, D.str e] false)]⟩) := by kernel_rfl
theorem z11_5_3 (lab : Lab) (a : List UInt8) (b : List UInt8) (c : List UInt8) (d : List UInt8) (e : List UInt8) : evL (ΓN mx) Z11 lab 11 5 ⟨[(2, .ptr 0 [] 35), (4, .ref 9 1), (23, .d 61 (D.agg [D.str ([112, 114, 101, 102, 105, 120, 61] : List UInt8), D.str ([116, 97, 103, 115, 61] : List UInt8), D.str ([100, 97, 121, 115, 61] : List UInt8), D.str ([111, 108, 100, 61] : List UInt8), D.str ([109, 97, 114, 107, 101, 114, 115, 61] : List UInt8)])), (24, .i .i64 3)], [some (.box 35 (.d 35 (D.agg [D.str ([] : List UInt8), D.slice .nl [], D.int .i64 0, D.int .i64 0, D.bool false]))), some (.arr 9 [D.str (cpS a ([112, 114, 101, 102, 105, 120, 61] : List UInt8)), D.str (cpS b ([116, 97, 103, 115, 61] : List UInt8)), D.str (cpS c ([100, 97, 121, 115, 61] : List UInt8)), D.str d, D.str e] false)]⟩ =
  bif !(hpB d ([111, 108, 100, 61] : List UInt8)) then (some (.tuple [.d 35 (D.agg [D.str ([] : List UInt8), D.slice .nl [], D.int .i64 0, D.int .i64 0, D.bool false]), .i .i64 5], [])) else (lab (todoAt (ΓN mx) 11 5) ⟨[(2, .ptr 0 [] 35), (4, .ref 9 1), (23, .d 61 (D.agg [D.str ([112, 114, 101, 102, 105, 120, 61] : List UInt8), D.str ([116, 97, 103, 115, 61] : List UInt8), D.str ([100, 97, 121, 115, 61] : List UInt8), D.str ([111, 108, 100, 61] : List UInt8), D.str ([109, 97, 114, 107, 101, 114, 115, 61] : List UInt8)])), (24, .i .i64 4)], [some (.box 35 (.d 35 (D.agg [D.str ([] : List UInt8), D.slice .nl [], D.int .i64 0, D.int .i64 0, D.bool false]))), some (.arr 9 [D.str (cpS a ([112, 114, 101, 102, 105, 120, 61] : List UInt8)), D.str (cpS b ([116, 97, 103, 115, 61] : List UInt8)), D.str (cpS c ([100, 97, 121, 115, 61] : List UInt8)), D.str (cpS d ([111, 108, 100, 61] : List UInt8)), D.str e] false)]⟩) := by kernel_rfl
theorem z11_5_4 (lab : Lab) (a : List UInt8) (b : List UInt8) (c : List UInt8) (d : List UInt8) (e : List UInt8) : evL (ΓN mx) Z11 lab 11 5 ⟨[(2, .ptr 0 [] 35), (4, .ref 9 1), (23, .d 61 (D.agg [D.str ([112, 114, 101, 102, 105, 120, 61] : List UInt8), D.str ([116, 97, 103, 115, 61] : List UInt8), D.str ([100, 97, 121, 115, 61] : List UInt8), D.str ([111, 108, 100, 61] : List UInt8), D.str ([109, 97, 114, 107, 101, 114, 115, 61] : List UInt8)])), (24, .i .i64 4)], [some (.box 35 (.d 35 (D.agg [D.str ([] : List UInt8), D.slice .nl [], D.int .i64 0, D.int .i64 0, D.bool false]))), some (.arr 9 [D.str (cpS a ([112, 114, 101, 102, 105, 120, 61] : List UInt8)), D.str (cpS b ([116, 97, 103, 115, 61] : List UInt8)), D.str (cpS c ([100, 97, 121, 115, 61] : List UInt8)), D.str (cpS d ([111, 108, 100, 61] : List UInt8)), D.str e] false)]⟩ =
  bif !(hpB e ([109, 97, 114, 107, 101, 114, 115, 61] : List UInt8)) then (some (.tuple [.d 35 (D.agg [D.str ([] : List UInt8), D.slice .nl [], D.int .i64 0, D.int .i64 0, D.bool false]), .i .i64 5], [])) else (lab (todoAt (ΓN mx) 11 5) ⟨[(2, .ptr 0 [] 35), (4, .ref 9 1), (23, .d 61 (D.agg [D.str ([112, 114, 101, 102, 105, 120, 61] : List UInt8), D.str ([116, 97, 103, 115, 61] : List UInt8), D.str ([100, 97, 121, 115, 61] : List UInt8), D.str ([111, 108, 100, 61] : List UInt8), D.str ([109, 97, 114, 107, 101, 114, 115, 61] : List UInt8)])), (24, .i .i64 5)], [some (.box 35 (.d 35 (D.agg [D.str ([] : List UInt8), D.slice .nl [], D.int .i64 0, D.int .i64 0, D.bool false]))), some (.arr 9 [D.str (cpS a ([112, 114, 101, 102, 105, 120, 61] : List UInt8)), D.str (cpS b ([116, 97, 103, 115, 61] : List UInt8)), D.str (cpS c ([100, 97, 121, 115, 61] : List UInt8)), D.str (cpS d ([111, 108, 100, 61] : List UInt8)), D.str (cpS e ([109, 97, 114, 107, 101, 114, 115, 61] : List UInt8))] false)]⟩) := by kernel_rfl
theorem z11_5_5 (lab : Lab) (a : List UInt8) (b : List UInt8) (c : List UInt8) (d : List UInt8) (e : List UInt8) : evL (ΓN mx) Z11 lab 11 5 ⟨[(2, .ptr 0 [] 35), (4, .ref 9 1), (23, .d 61 (D.agg [D.str ([112, 114, 101, 102, 105, 120, 61] : List UInt8), D.str ([116, 97, 103, 115, 61] : List UInt8), D.str ([100, 97, 121, 115, 61] : List UInt8), D.str ([111, 108, 100, 61] : List UInt8), D.str ([109, 97, 114, 107, 101, 114, 115, 61] : List UInt8)])), (24, .i .i64 5)], [some (.box 35 (.d 35 (D.agg [D.str ([] : List UInt8), D.slice .nl [], D.int .i64 0, D.int .i64 0, D.bool false]))), some (.arr 9 [D.str (cpS a ([112, 114, 101, 102, 105, 120, 61] : List UInt8)), D.str (cpS b ([116, 97, 103, 115, 61] : List UInt8)), D.str (cpS c ([100, 97, 121, 115, 61] : List UInt8)), D.str (cpS d ([111, 108, 100, 61] : List UInt8)), D.str (cpS e ([109, 97, 114, 107, 101, 114, 115, 61] : List UInt8))] false)]⟩ =
  bif short (cpS a ([112, 114, 101, 102, 105, 120, 61] : List UInt8)) then (bif short (cpS c ([100, 97, 121, 115, 61] : List UInt8)) then (bif short (cpS d ([111, 108, 100, 61] : List UInt8)) then (bif (unE (cpS a ([112, 114, 101, 102, 105, 120, 61] : List UInt8))) != 0 then (some (.tuple [.d 35 (D.agg [D.str ([] : List UInt8), D.slice .nl [], D.int .i64 0, D.int .i64 0, D.bool false]), .i .i64 5], [])) else (bif !(nmB (cpS c ([100, 97, 121, 115, 61] : List UInt8))) then (some (.tuple [.d 35 (D.agg [D.str ([] : List UInt8), D.slice .nl [], D.int .i64 0, D.int .i64 0, D.bool false]), .i .i64 5], [])) else (bif !(nmB (cpS d ([111, 108, 100, 61] : List UInt8))) then (some (.tuple [.d 35 (D.agg [D.str ([] : List UInt8), D.slice .nl [], D.int .i64 0, D.int .i64 0, D.bool false]), .i .i64 5], [])) else (bif !((cpS e ([109, 97, 114, 107, 101, 114, 115, 61] : List UInt8)) == ([48] : List UInt8)) then (bif !((cpS e ([109, 97, 114, 107, 101, 114, 115, 61] : List UInt8)) == ([49] : List UInt8)) then (some (.tuple [.d 35 (D.agg [D.str ([] : List UInt8), D.slice .nl [], D.int .i64 0, D.int .i64 0, D.bool false]), .i .i64 5], [])) else (bif short (cpS b ([116, 97, 103, 115, 61] : List UInt8)) then (bif (psE (cpS b ([116, 97, 103, 115, 61] : List UInt8))) != 0 then (some (.tuple [.d 35 (D.agg [D.str ([] : List UInt8), D.slice .nl [], D.int .i64 0, D.int .i64 0, D.bool false]), .i .i64 (psE (cpS b ([116, 97, 103, 115, 61] : List UInt8)))], [])) else (bif rC (D.agg [D.str (unS (cpS a ([112, 114, 101, 102, 105, 120, 61] : List UInt8))), D.slice .any (psL (cpS b ([116, 97, 103, 115, 61] : List UInt8))), D.int .i64 (atZ (cpS c ([100, 97, 121, 115, 61] : List UInt8))), D.int .i64 (atZ (cpS d ([111, 108, 100, 61] : List UInt8))), D.bool ((cpS e ([109, 97, 114, 107, 101, 114, 115, 61] : List UInt8)) == ([49] : List UInt8))]) then (bif !(rGood (D.agg [D.str (unS (cpS a ([112, 114, 101, 102, 105, 120, 61] : List UInt8))), D.slice .any (psL (cpS b ([116, 97, 103, 115, 61] : List UInt8))), D.int .i64 (atZ (cpS c ([100, 97, 121, 115, 61] : List UInt8))), D.int .i64 (atZ (cpS d ([111, 108, 100, 61] : List UInt8))), D.bool ((cpS e ([109, 97, 114, 107, 101, 114, 115, 61] : List UInt8)) == ([49] : List UInt8))])) then (some (.tuple [.d 35 (D.agg [D.str ([] : List UInt8), D.slice .nl [], D.int .i64 0, D.int .i64 0, D.bool false]), .i .i64 2], [])) else (some (.tuple [.d 35 (D.agg [D.str (unS (cpS a ([112, 114, 101, 102, 105, 120, 61] : List UInt8))), D.slice .any (psL (cpS b ([116, 97, 103, 115, 61] : List UInt8))), D.int .i64 (atZ (cpS c ([100, 97, 121, 115, 61] : List UInt8))), D.int .i64 (atZ (cpS d ([111, 108, 100, 61] : List UInt8))), D.bool ((cpS e ([109, 97, 114, 107, 101, 114, 115, 61] : List UInt8)) == ([49] : List UInt8))]), .i .i64 0], []))) else none)) else none)) else (bif short (cpS b ([116, 97, 103, 115, 61] : List UInt8)) then (bif (psE (cpS b ([116, 97, 103, 115, 61] : List UInt8))) != 0 then (some (.tuple [.d 35 (D.agg [D.str ([] : List UInt8), D.slice .nl [], D.int .i64 0, D.int .i64 0, D.bool false]), .i .i64 (psE (cpS b ([116, 97, 103, 115, 61] : List UInt8)))], [])) else (bif rC (D.agg [D.str (unS (cpS a ([112, 114, 101, 102, 105, 120, 61] : List UInt8))), D.slice .any (psL (cpS b ([116, 97, 103, 115, 61] : List UInt8))), D.int .i64 (atZ (cpS c ([100, 97, 121, 115, 61] : List UInt8))), D.int .i64 (atZ (cpS d ([111, 108, 100, 61] : List UInt8))), D.bool ((cpS e ([109, 97, 114, 107, 101, 114, 115, 61] : List UInt8)) == ([49] : List UInt8))]) then (bif !(rGood (D.agg [D.str (unS (cpS a ([112, 114, 101, 102, 105, 120, 61] : List UInt8))), D.slice .any (psL (cpS b ([116, 97, 103, 115, 61] : List UInt8))), D.int .i64 (atZ (cpS c ([100, 97, 121, 115, 61] : List UInt8))), D.int .i64 (atZ (cpS d ([111, 108, 100, 61] : List UInt8))), D.bool ((cpS e ([109, 97, 114, 107, 101, 114, 115, 61] : List UInt8)) == ([49] : List UInt8))])) then (some (.tuple [.d 35 (D.agg [D.str ([] : List UInt8), D.slice .nl [], D.int .i64 0, D.int .i64 0, D.bool false]), .i .i64 2], [])) else (some (.tuple [.d 35 (D.agg [D.str (unS (cpS a ([112, 114, 101, 102, 105, 120, 61] : List UInt8))), D.slice .any (psL (cpS b ([116, 97, 103, 115, 61] : List UInt8))), D.int .i64 (atZ (cpS c ([100, 97, 121, 115, 61] : List UInt8))), D.int .i64 (atZ (cpS d ([111, 108, 100, 61] : List UInt8))), D.bool ((cpS e ([109, 97, 114, 107, 101, 114, 115, 61] : List UInt8)) == ([49] : List UInt8))]), .i .i64 0], []))) else none)) else none))))) else none) else none) else none := by kernel_rfl
def Z12 : Handle := runS [⟨35, xWds⟩, ⟨36, dat (sp2 (fun _ _ => true) fun a b => .b (hpB a b))⟩, ⟨37, dat (sp1 short fun p => .tuple [.s (unS p), .i .i64 (unE p)])⟩, ⟨38, dat (sp1 (fun _ => true) fun p => .i .i64 (nmR p))⟩, ⟨39, dat (sp1 short fun p => .tuple [.sl 84 .any (psL p), .i .i64 (psE p)])⟩, ⟨16, dat (spL1 35 rsC fun l => .b (rsB l))⟩]
theorem z12 (lab : Lab) (s : List UInt8) : evF (ΓN mx) Z12 lab 12 [.s s] [] =
  bif short s then (bif (((splitC 32 s).length : Int)) != 5 then (some (.tuple [.d 35 (D.agg [D.str ([] : List UInt8), D.slice .nl [], D.int .i64 0, D.int .i64 0, D.bool false]), .i .i64 5], [])) else (lab (todoAt (ΓN mx) 12 6) ⟨[(2, .ptr 0 [] 35), (4, .ref 9 1), (5, .sl 9 .ex [D.str ([112, 114, 101, 102, 105, 120, 61] : List UInt8), D.str ([116, 97, 103, 115, 61] : List UInt8), D.str ([100, 97, 121, 115, 61] : List UInt8), D.str ([111, 108, 100, 61] : List UInt8), D.str ([109, 97, 114, 107, 101, 114, 115, 61] : List UInt8)]), (6, .i .i64 0)], [some (.box 35 (.d 35 (D.agg [D.str ([] : List UInt8), D.slice .nl [], D.int .i64 0, D.int .i64 0, D.bool false]))), some (.arr 9 (splitC 32 s) false)]⟩)) else none := by kernel_rfl
theorem z12_6_0 (lab : Lab) (a : List UInt8) (b : List UInt8) (c : List UInt8) (d : List UInt8) (e : List UInt8) : evL (ΓN mx) Z12 lab 12 6 ⟨[(2, .ptr 0 [] 35), (4, .ref 9 1), (5, .sl 9 .ex [D.str ([112, 114, 101, 102, 105, 120, 61] : List UInt8), D.str ([116, 97, 103, 115, 61] : List UInt8), D.str ([100, 97, 121, 115, 61] : List UInt8), D.str ([111, 108, 100, 61] : List UInt8), D.str ([109, 97, 114, 107, 101, 114, 115, 61] : List UInt8)]), (6, .i .i64 0)], [some (.box 35 (.d 35 (D.agg [D.str ([] : List UInt8), D.slice .nl [], D.int .i64 0, D.int .i64 0, D.bool false]))), some (.arr 9 [D.str a, D.str b, D.str c, D.str d, D.str e] false)]⟩ =
  bif !(hpB a ([112, 114, 101, 102, 105, 120, 61] : List UInt8)) then (some (.tuple [.d 35 (D.agg [D.str ([] : List UInt8), D.slice .nl [], D.int .i64 0, D.int .i64 0, D.bool false]), .i .i64 5], [])) else (bif decide ((0:Int) ≤ 7) && decide (7 ≤ (List.length a : Int)) then (lab (todoAt (ΓN mx) 12 6) ⟨[(2, .ptr 0 [] 35), (4, .ref 9 1), (5, .sl 9 .ex [D.str ([112, 114, 101, 102, 105, 120, 61] : List UInt8), D.str ([116, 97, 103, 115, 61] : List UInt8), D.str ([100, 97, 121, 115, 61] : List UInt8), D.str ([111, 108, 100, 61] : List UInt8), D.str ([109, 97, 114, 107, 101, 114, 115, 61] : List UInt8)]), (6, .i .i64 1)], [some (.box 35 (.d 35 (D.agg [D.str ([] : List UInt8), D.slice .nl [], D.int .i64 0, D.int .i64 0, D.bool false]))), some (.arr 9 [D.str (List.take ((List.length a) - 7) (List.drop 7 a)), D.str b, D.str c, D.str d, D.str e] false)]⟩) else none) := by kernel_rfl
theorem z12_6_1 (lab : Lab) (a : List UInt8) (b : List UInt8) (c : List UInt8) (d : List UInt8) (e : List UInt8) : evL (ΓN mx) Z12 lab 12 6 ⟨[(2, .ptr 0 [] 35), (4, .ref 9 1), (5, .sl 9 .ex [D.str ([112, 114, 101, 102, 105, 120, 61] : List UInt8), D.str ([116, 97, 103, 115, 61] : List UInt8), D.str ([100, 97, 121, 115, 61] : List UInt8), D.str ([111, 108, 100, 61] : List UInt8), D.str ([109, 97, 114, 107, 101, 114, 115, 61] : List UInt8)]), (6, .i .i64 1)], [some (.box 35 (.d 35 (D.agg [D.str ([] : List UInt8), D.slice .nl [], D.int .i64 0, D.int .i64 0, D.bool false]))), some (.arr 9 [D.str (List.take ((List.length a) - 7) (List.drop 7 a)), D.str b, D.str c, D.str d, D.str e] false)]⟩ =
  bif !(hpB b ([116, 97, 103, 115, 61] : List UInt8)) then (some (.tuple [.d 35 (D.agg [D.str ([] : List UInt8), D.slice .nl [], D.int .i64 0, D.int .i64 0, D.bool false]), .i .i64 5], [])) else (bif decide ((0:Int) ≤ 5) && decide (5 ≤ (List.length b : Int)) then (lab (todoAt (ΓN mx) 12 6) ⟨[(2, .ptr 0 [] 35), (4, .ref 9 1), (5, .sl 9 .ex [D.str ([112, 114, 101, 102, 105, 120, 61] : List UInt8), D.str ([116, 97, 103, 115, 61] : List UInt8), D.str ([100, 97, 121, 115, 61] : List UInt8), D.str ([111, 108, 100, 61] : List UInt8), D.str ([109, 97, 114, 107, 101, 114, 115, 61] : List UInt8)]), (6, .i .i64 2)], [some (.box 35 (.d 35 (D.agg [D.str ([] : List UInt8), D.slice .nl [], D.int .i64 0, D.int .i64 0, D.bool false]))), some (.arr 9 [D.str (List.take ((List.length a) - 7) (List.drop 7 a)), D.str (List.take ((List.length b) - 5) (List.drop 5 b)), D.str c, D.str d, D.str e] false)]⟩) else none) := by kernel_rfl
theorem z12_6_2 (lab : Lab) (a : List UInt8) (b : List UInt8) (c : List UInt8) (d : List UInt8) (e : List UInt8) : evL (ΓN mx) Z12 lab 12 6 ⟨[(2, .ptr 0 [] 35), (4, .ref 9 1), (5, .sl 9 .ex [D.str ([112, 114, 101, 102, 105, 120, 61] : List UInt8), D.str ([116, 97, 103, 115, 61] : List UInt8), D.str ([100, 97, 121, 115, 61] : List UInt8), D.str ([111, 108, 100, 61] : List UInt8), D.str ([109, 97, 114, 107, 101, 114, 115, 61] : List UInt8)]), (6, .i .i64 2)], [some (.box 35 (.d 35 (D.agg [D.str ([] : List UInt8), D.slice .nl [], D.int .i64 0, D.int .i64 0, D.bool false]))), some (.arr 9 [D.str (List.take ((List.length a) - 7) (List.drop 7 a)), D.str (List.take ((List.length b) - 5) (List.drop 5 b)), D.str c, D.str d, D.str e] false)]⟩ =
  bif !(hpB c ([100, 97, 121, 115, 61] : List UInt8)) then (some (.tuple [.d 35 (D.agg [D.str ([] : List UInt8), D.slice .nl [], D.int .i64 0, D.int .i64 0, D.bool false]), .i .i64 5], [])) else (bif decide ((0:Int) ≤ 5) && decide (5 ≤ (List.length c : Int)) then (lab (todoAt (ΓN mx) 12 6) ⟨[(2, .ptr 0 [] 35), (4, .ref 9 1), (5, .sl 9 .ex [D.str ([112, 114, 101, 102, 105, 120, 61] : List UInt8), D.str ([116, 97, 103, 115, 61] : List UInt8), D.str ([100, 97, 121, 115, 61] : List UInt8), D.str ([111, 108, 100, 61] : List UInt8), D.str ([109, 97, 114, 107, 101, 114, 115, 61] : List UInt8)]), (6, .i .i64 3)], [some (.box 35 (.d 35 (D.agg [D.str ([] : List UInt8), D.slice .nl [], D.int .i64 0, D.int .i64 0, D.bool false]))), some (.arr 9 [D.str (List.take ((List.length a) - 7) (List.drop 7 a)), D.str (List.take ((List.length b) - 5) (List.drop 5 b)), D.str (List.take ((List.length c) - 5) (List.drop 5 c)), D.str d, D.str e] false)]⟩) else none) := by kernel_rfl
theorem z12_6_3 (lab : Lab) (a : List UInt8) (b : List UInt8) (c : List UInt8) (d : List UInt8) (e : List UInt8) : evL (ΓN mx) Z12 lab 12 6 ⟨[(2, .ptr 0 [] 35), (4, .ref 9 1), (5, .sl 9 .ex [D.str ([112, 114, 101, 102, 105, 120, 61] : List UInt8), D.str ([116, 97, 103, 115, 61] : List UInt8), D.str ([100, 97, 121, 115, 61] : List UInt8), D.str ([111, 108, 100, 61] : List UInt8), D.str ([109, 97, 114, 107, 101, 114, 115, 61] : List UInt8)]), (6, .i .i64 3)], [some (.box 35 (.d 35 (D.agg [D.str ([] : List UInt8), D.slice .nl [], D.int .i64 0, D.int .i64 0, D.bool false]))), some (.arr 9 [D.str (List.take ((List.length a) - 7) (List.drop 7 a)), D.str (List.take ((List.length b) - 5) (List.drop 5 b)), D.str (List.take ((List.length c) - 5) (List.drop 5 c)), D.str d, D.str e] false)]⟩ =
  bif !(hpB d ([111, 108, 100, 61] : List UInt8)) then (some (.tuple [.d 35 (D.agg [D.str ([] : List UInt8), D.slice .nl [], D.int .i64 0, D.int .i64 0, D.bool false]), .i .i64 5], [])) else (bif decide ((0:Int) ≤ 4) && decide (4 ≤ (List.length d : Int)) then (lab (todoAt (ΓN mx) 12 6) ⟨[(2, .ptr 0 [] 35), (4, .ref 9 1), (5, .sl 9 .ex [D.str ([112, 114, 101, 102, 105, 120, 61] : List UInt8), D.str ([116, 97, 103, 115, 61] : List UInt8), D.str ([100, 97, 121, 115, 61] : List UInt8), D.str ([111, 108, 100, 61] : List UInt8), D.str ([109, 97, 114, 107, 101, 114, 115, 61] : List UInt8)]), (6, .i .i64 4)], [some (.box 35 (.d 35 (D.agg [D.str ([] : List UInt8), D.slice .nl [], D.int .i64 0, D.int .i64 0, D.bool false]))), some (.arr 9 [D.str (List.take ((List.length a) - 7) (List.drop 7 a)), D.str (List.take ((List.length b) - 5) (List.drop 5 b)), D.str (List.take ((List.length c) - 5) (List.drop 5 c)), D.str (List.take ((List.length d) - 4) (List.drop 4 d)), D.str e] false)]⟩) else none) := by kernel_rfl
theorem z12_6_4 (lab : Lab) (a : List UInt8) (b : List UInt8) (c : List UInt8) (d : List UInt8) (e : List UInt8) : evL (ΓN mx) Z12 lab 12 6 ⟨[(2, .ptr 0 [] 35), (4, .ref 9 1), (5, .sl 9 .ex [D.str ([112, 114, 101, 102, 105, 120, 61] : List UInt8), D.str ([116, 97, 103, 115, 61] : List UInt8), D.str ([100, 97, 121, 115, 61] : List UInt8), D.str ([111, 108, 100, 61] : List UInt8), D.str ([109, 97, 114, 107, 101, 114, 115, 61] : List UInt8)]), (6, .i .i64 4)], [some (.box 35 (.d 35 (D.agg [D.str ([] : List UInt8), D.slice .nl [], D.int .i64 0, D.int .i64 0, D.bool false]))), some (.arr 9 [D.str (List.take ((List.length a) - 7) (List.drop 7 a)), D.str (List.take ((List.length b) - 5) (List.drop 5 b)), D.str (List.take ((List.length c) - 5) (List.drop 5 c)), D.str (List.take ((List.length d) - 4) (List.drop 4 d)), D.str e] false)]⟩ =
  bif !(hpB e ([109, 97, 114, 107, 101, 114, 115, 61] : List UInt8)) then (some (.tuple [.d 35 (D.agg [D.str ([] : List UInt8), D.slice .nl [], D.int .i64 0, D.int .i64 0, D.bool false]), .i .i64 5], [])) else (bif decide ((0:Int) ≤ 8) && decide (8 ≤ (List.length e : Int)) then (lab (todoAt (ΓN mx) 12 6) ⟨[(2, .ptr 0 [] 35), (4, .ref 9 1), (5, .sl 9 .ex [D.str ([112, 114, 101, 102, 105, 120, 61] : List UInt8), D.str ([116, 97, 103, 115, 61] : List UInt8), D.str ([100, 97, 121, 115, 61] : List UInt8), D.str ([111, 108, 100, 61] : List UInt8), D.str ([109, 97, 114, 107, 101, 114, 115, 61] : List UInt8)]), (6, .i .i64 5)], [some (.box 35 (.d 35 (D.agg [D.str ([] : List UInt8), D.slice .nl [], D.int .i64 0, D.int .i64 0, D.bool false]))), some (.arr 9 [D.str (List.take ((List.length a) - 7) (List.drop 7 a)), D.str (List.take ((List.length b) - 5) (List.drop 5 b)), D.str (List.take ((List.length c) - 5) (List.drop 5 c)), D.str (List.take ((List.length d) - 4) (List.drop 4 d)), D.str (List.take ((List.length e) - 8) (List.drop 8 e))] false)]⟩) else none) := by kernel_rfl
theorem z12_6_5 (lab : Lab) (a : List UInt8) (b : List UInt8) (c : List UInt8) (d : List UInt8) (e : List UInt8) : evL (ΓN mx) Z12 lab 12 6 ⟨[(2, .ptr 0 [] 35), (4, .ref 9 1), (5, .sl 9 .ex [D.str ([112, 114, 101, 102, 105, 120, 61] : List UInt8), D.str ([116, 97, 103, 115, 61] : List UInt8), D.str ([100, 97, 121, 115, 61] : List UInt8), D.str ([111, 108, 100, 61] : List UInt8), D.str ([109, 97, 114, 107, 101, 114, 115, 61] : List UInt8)]), (6, .i .i64 5)], [some (.box 35 (.d 35 (D.agg [D.str ([] : List UInt8), D.slice .nl [], D.int .i64 0, D.int .i64 0, D.bool false]))), some (.arr 9 [D.str (List.take ((List.length a) - 7) (List.drop 7 a)), D.str (List.take ((List.length b) - 5) (List.drop 5 b)), D.str (List.take ((List.length c) - 5) (List.drop 5 c)), D.str (List.take ((List.length d) - 4) (List.drop 4 d)), D.str (List.take ((List.length e) - 8) (List.drop 8 e))] false)]⟩ =
  bif short (List.take ((List.length a) - 7) (List.drop 7 a)) then (bif (unE (List.take ((List.length a) - 7) (List.drop 7 a))) != 0 then (some (.tuple [.d 35 (D.agg [D.str ([] : List UInt8), D.slice .nl [], D.int .i64 0, D.int .i64 0, D.bool false]), .i .i64 5], [])) else (bif decide ((nmR (List.take ((List.length c) - 5) (List.drop 5 c))) < 0) then (some (.tuple [.d 35 (D.agg [D.str ([] : List UInt8), D.slice .nl [], D.int .i64 0, D.int .i64 0, D.bool false]), .i .i64 5], [])) else (bif decide ((nmR (List.take ((List.length d) - 4) (List.drop 4 d))) < 0) then (some (.tuple [.d 35 (D.agg [D.str ([] : List UInt8), D.slice .nl [], D.int .i64 0, D.int .i64 0, D.bool false]), .i .i64 5], [])) else (bif !((List.take ((List.length e) - 8) (List.drop 8 e)) == ([48] : List UInt8)) then (bif !((List.take ((List.length e) - 8) (List.drop 8 e)) == ([49] : List UInt8)) then (some (.tuple [.d 35 (D.agg [D.str ([] : List UInt8), D.slice .nl [], D.int .i64 0, D.int .i64 0, D.bool false]), .i .i64 5], [])) else (bif short (List.take ((List.length b) - 5) (List.drop 5 b)) then (bif (psE (List.take ((List.length b) - 5) (List.drop 5 b))) != 0 then (some (.tuple [.d 35 (D.agg [D.str ([] : List UInt8), D.slice .nl [], D.int .i64 0, D.int .i64 0, D.bool false]), .i .i64 (psE (List.take ((List.length b) - 5) (List.drop 5 b)))], [])) else (bif rsC ([D.agg [D.str (unS (List.take ((List.length a) - 7) (List.drop 7 a))), D.slice .any (psL (List.take ((List.length b) - 5) (List.drop 5 b))), D.int .i64 (nmR (List.take ((List.length c) - 5) (List.drop 5 c))), D.int .i64 (nmR (List.take ((List.length d) - 4) (List.drop 4 d))), D.bool ((List.take ((List.length e) - 8) (List.drop 8 e)) == ([49] : List UInt8))]]) then (bif !(rsB ([D.agg [D.str (unS (List.take ((List.length a) - 7) (List.drop 7 a))), D.slice .any (psL (List.take ((List.length b) - 5) (List.drop 5 b))), D.int .i64 (nmR (List.take ((List.length c) - 5) (List.drop 5 c))), D.int .i64 (nmR (List.take ((List.length d) - 4) (List.drop 4 d))), D.bool ((List.take ((List.length e) - 8) (List.drop 8 e)) == ([49] : List UInt8))]])) then (some (.tuple [.d 35 (D.agg [D.str ([] : List UInt8), D.slice .nl [], D.int .i64 0, D.int .i64 0, D.bool false]), .i .i64 2], [])) else (some (.tuple [.d 35 (D.agg [D.str (unS (List.take ((List.length a) - 7) (List.drop 7 a))), D.slice .any (psL (List.take ((List.length b) - 5) (List.drop 5 b))), D.int .i64 (nmR (List.take ((List.length c) - 5) (List.drop 5 c))), D.int .i64 (nmR (List.take ((List.length d) - 4) (List.drop 4 d))), D.bool ((List.take ((List.length e) - 8) (List.drop 8 e)) == ([49] : List UInt8))]), .i .i64 0], []))) else none)) else none)) else (bif short (List.take ((List.length b) - 5) (List.drop 5 b)) then (bif (psE (List.take ((List.length b) - 5) (List.drop 5 b))) != 0 then (some (.tuple [.d 35 (D.agg [D.str ([] : List UInt8), D.slice .nl [], D.int .i64 0, D.int .i64 0, D.bool false]), .i .i64 (psE (List.take ((List.length b) - 5) (List.drop 5 b)))], [])) else (bif rsC ([D.agg [D.str (unS (List.take ((List.length a) - 7) (List.drop 7 a))), D.slice .any (psL (List.take ((List.length b) - 5) (List.drop 5 b))), D.int .i64 (nmR (List.take ((List.length c) - 5) (List.drop 5 c))), D.int .i64 (nmR (List.take ((List.length d) - 4) (List.drop 4 d))), D.bool ((List.take ((List.length e) - 8) (List.drop 8 e)) == ([49] : List UInt8))]]) then (bif !(rsB ([D.agg [D.str (unS (List.take ((List.length a) - 7) (List.drop 7 a))), D.slice .any (psL (List.take ((List.length b) - 5) (List.drop 5 b))), D.int .i64 (nmR (List.take ((List.length c) - 5) (List.drop 5 c))), D.int .i64 (nmR (List.take ((List.length d) - 4) (List.drop 4 d))), D.bool ((List.take ((List.length e) - 8) (List.drop 8 e)) == ([49] : List UInt8))]])) then (some (.tuple [.d 35 (D.agg [D.str ([] : List UInt8), D.slice .nl [], D.int .i64 0, D.int .i64 0, D.bool false]), .i .i64 2], [])) else (some (.tuple [.d 35 (D.agg [D.str (unS (List.take ((List.length a) - 7) (List.drop 7 a))), D.slice .any (psL (List.take ((List.length b) - 5) (List.drop 5 b))), D.int .i64 (nmR (List.take ((List.length c) - 5) (List.drop 5 c))), D.int .i64 (nmR (List.take ((List.length d) - 4) (List.drop 4 d))), D.bool ((List.take ((List.length e) - 8) (List.drop 8 e)) == ([49] : List UInt8))]), .i .i64 0], []))) else none)) else none))))) else none := by kernel_rfl
def Z9 : Handle := runS [⟨22, dat (spD1 35 rC fun r => .b (rGood r))⟩, ⟨23, dat (spL1s 84 tC fun l => .tuple [.s (txS l), .i .i64 (txE l)])⟩, ⟨24, dat (sp1 short fun p => .s (escV p))⟩, ⟨25, dat spIt⟩, ⟨26, dat (spJ joinC joinV)⟩]
theorem z9 (lab : Lab) (rp : List UInt8) (rc : Cp) (rt : List D) (rd : Int) (ro : Int) (rm : Bool) : evF (ΓN mx) Z9 lab 9 [.d 35 (D.agg [D.str rp, D.slice rc rt, D.int .i64 rd, D.int .i64 ro, D.bool rm])] [] =
  bif rC (D.agg [D.str rp, D.slice rc rt, D.int .i64 rd, D.int .i64 ro, D.bool rm]) then (bif !(rGood (D.agg [D.str rp, D.slice rc rt, D.int .i64 rd, D.int .i64 ro, D.bool rm])) then (some (.tuple [.s ([] : List UInt8), .i .i64 2], [])) else (bif tC rt then (bif rm then (bif short rp then (bif i64B rd then (bif i64B ro then (lab (todoAt (ΓN mx) 9 9) ⟨[(7, .ptr 0 [] 61), (33, .d 61 (D.agg [D.str ([112, 114, 101, 102, 105, 120, 61] : List UInt8), D.str ([116, 97, 103, 115, 61] : List UInt8), D.str ([100, 97, 121, 115, 61] : List UInt8), D.str ([111, 108, 100, 61] : List UInt8), D.str ([109, 97, 114, 107, 101, 114, 115, 61] : List UInt8)])), (34, .i .i64 0)], [some (.box 61 (.d 61 (D.agg [D.str (escV rp), D.str (txS rt), D.str (Lib.itoa rd), D.str (Lib.itoa ro), D.str ([49] : List UInt8)])))]⟩) else none) else none) else none) else (bif short rp then (bif i64B rd then (bif i64B ro then (lab (todoAt (ΓN mx) 9 9) ⟨[(7, .ptr 0 [] 61), (33, .d 61 (D.agg [D.str ([112, 114, 101, 102, 105, 120, 61] : List UInt8), D.str ([116, 97, 103, 115, 61] : List UInt8), D.str ([100, 97, 121, 115, 61] : List UInt8), D.str ([111, 108, 100, 61] : List UInt8), D.str ([109, 97, 114, 107, 101, 114, 115, 61] : List UInt8)])), (34, .i .i64 0)], [some (.box 61 (.d 61 (D.agg [D.str (escV rp), D.str (txS rt), D.str (Lib.itoa rd), D.str (Lib.itoa ro), D.str ([48] : List UInt8)])))]⟩) else none) else none) else none)) else none)) else none := by kernel_rfl
theorem z9_9_0 (lab : Lab) (a : List UInt8) (b : List UInt8) (c : List UInt8) (d : List UInt8) (e : List UInt8) : evL (ΓN mx) Z9 lab 9 9 ⟨[(7, .ptr 0 [] 61), (33, .d 61 (D.agg [D.str ([112, 114, 101, 102, 105, 120, 61] : List UInt8), D.str ([116, 97, 103, 115, 61] : List UInt8), D.str ([100, 97, 121, 115, 61] : List UInt8), D.str ([111, 108, 100, 61] : List UInt8), D.str ([109, 97, 114, 107, 101, 114, 115, 61] : List UInt8)])), (34, .i .i64 0)], [some (.box 61 (.d 61 (D.agg [D.str a, D.str b, D.str c, D.str d, D.str e])))]⟩ =
  bif decide (List.length ([112, 114, 101, 102, 105, 120, 61] : List UInt8) + List.length a ≤ maxStr) then (lab (todoAt (ΓN mx) 9 9) ⟨[(7, .ptr 0 [] 61), (33, .d 61 (D.agg [D.str ([112, 114, 101, 102, 105, 120, 61] : List UInt8), D.str ([116, 97, 103, 115, 61] : List UInt8), D.str ([100, 97, 121, 115, 61] : List UInt8), D.str ([111, 108, 100, 61] : List UInt8), D.str ([109, 97, 114, 107, 101, 114, 115, 61] : List UInt8)])), (34, .i .i64 1)], [some (.box 61 (.d 61 (D.agg [D.str (([112, 114, 101, 102, 105, 120, 61] : List UInt8) ++ a), D.str b, D.str c, D.str d, D.str e])))]⟩) else none := by kernel_rfl
theorem z9_9_1 (lab : Lab) (a : List UInt8) (b : List UInt8) (c : List UInt8) (d : List UInt8) (e : List UInt8) : evL (ΓN mx) Z9 lab 9 9 ⟨[(7, .ptr 0 [] 61), (33, .d 61 (D.agg [D.str ([112, 114, 101, 102, 105, 120, 61] : List UInt8), D.str ([116, 97, 103, 115, 61] : List UInt8), D.str ([100, 97, 121, 115, 61] : List UInt8), D.str ([111, 108, 100, 61] : List UInt8), D.str ([109, 97, 114, 107, 101, 114, 115, 61] : List UInt8)])), (34, .i .i64 1)], [some (.box 61 (.d 61 (D.agg [D.str (([112, 114, 101, 102, 105, 120, 61] : List UInt8) ++ a), D.str b, D.str c, D.str d, D.str e])))]⟩ =
  bif decide (List.length ([116, 97, 103, 115, 61] : List UInt8) + List.length b ≤ maxStr) then (lab (todoAt (ΓN mx) 9 9) ⟨[(7, .ptr 0 [] 61), (33, .d 61 (D.agg [D.str ([112, 114, 101, 102, 105, 120, 61] : List UInt8), D.str ([116, 97, 103, 115, 61] : List UInt8), D.str ([100, 97, 121, 115, 61] : List UInt8), D.str ([111, 108, 100, 61] : List UInt8), D.str ([109, 97, 114, 107, 101, 114, 115, 61] : List UInt8)])), (34, .i .i64 2)], [some (.box 61 (.d 61 (D.agg [D.str (([112, 114, 101, 102, 105, 120, 61] : List UInt8) ++ a), D.str (([116, 97, 103, 115, 61] : List UInt8) ++ b), D.str c, D.str d, D.str e])))]⟩) else none := by kernel_rfl
theorem z9_9_2 (lab : Lab) (a : List UInt8) (b : List UInt8) (c : List UInt8) (d : List UInt8) (e : List UInt8) : evL (ΓN mx) Z9 lab 9 9 ⟨[(7, .ptr 0 [] 61), (33, .d 61 (D.agg [D.str ([112, 114, 101, 102, 105, 120, 61] : List UInt8), D.str ([116, 97, 103, 115, 61] : List UInt8), D.str ([100, 97, 121, 115, 61] : List UInt8), D.str ([111, 108, 100, 61] : List UInt8), D.str ([109, 97, 114, 107, 101, 114, 115, 61] : List UInt8)])), (34, .i .i64 2)], [some (.box 61 (.d 61 (D.agg [D.str (([112, 114, 101, 102, 105, 120, 61] : List UInt8) ++ a), D.str (([116, 97, 103, 115, 61] : List UInt8) ++ b), D.str c, D.str d, D.str e])))]⟩ =
  bif decide (List.length ([100, 97, 121, 115, 61] : List UInt8) + List.length c ≤ maxStr) then (lab (todoAt (ΓN mx) 9 9) ⟨[(7, .ptr 0 [] 61), (33, .d 61 (D.agg [D.str ([112, 114, 101, 102, 105, 120, 61] : List UInt8), D.str ([116, 97, 103, 115, 61] : List UInt8), D.str ([100, 97, 121, 115, 61] : List UInt8), D.str ([111, 108, 100, 61] : List UInt8), D.str ([109, 97, 114, 107, 101, 114, 115, 61] : List UInt8)])), (34, .i .i64 3)], [some (.box 61 (.d 61 (D.agg [D.str (([112, 114, 101, 102, 105, 120, 61] : List UInt8) ++ a), D.str (([116, 97, 103, 115, 61] : List UInt8) ++ b), D.str (([100, 97, 121, 115, 61] : List UInt8) ++ c), D.str d, D.str e])))]⟩) else none := by kernel_rfl
theorem z9_9_3 (lab : Lab) (a : List UInt8) (b : List UInt8) (c : List UInt8) (d : List UInt8) (e : List UInt8) : evL (ΓN mx) Z9 lab 9 9 ⟨[(7, .ptr 0 [] 61), (33, .d 61 (D.agg [D.str ([112, 114, 101, 102, 105, 120, 61] : List UInt8), D.str ([116, 97, 103, 115, 61] : List UInt8), D.str ([100, 97, 121, 115, 61] : List UInt8), D.str ([111, 108, 100, 61] : List UInt8), D.str ([109, 97, 114, 107, 101, 114, 115, 61] : List UInt8)])), (34, .i .i64 3)], [some (.box 61 (.d 61 (D.agg [D.str (([112, 114, 101, 102, 105, 120, 61] : List UInt8) ++ a), D.str (([116, 97, 103, 115, 61] : List UInt8) ++ b), D.str (([100, 97, 121, 115, 61] : List UInt8) ++ c), D.str d, D.str e])))]⟩ =
  bif decide (List.length ([111, 108, 100, 61] : List UInt8) + List.length d ≤ maxStr) then (lab (todoAt (ΓN mx) 9 9) ⟨[(7, .ptr 0 [] 61), (33, .d 61 (D.agg [D.str ([112, 114, 101, 102, 105, 120, 61] : List UInt8), D.str ([116, 97, 103, 115, 61] : List UInt8), D.str ([100, 97, 121, 115, 61] : List UInt8), D.str ([111, 108, 100, 61] : List UInt8), D.str ([109, 97, 114, 107, 101, 114, 115, 61] : List UInt8)])), (34, .i .i64 4)], [some (.box 61 (.d 61 (D.agg [D.str (([112, 114, 101, 102, 105, 120, 61] : List UInt8) ++ a), D.str (([116, 97, 103, 115, 61] : List UInt8) ++ b), D.str (([100, 97, 121, 115, 61] : List UInt8) ++ c), D.str (([111, 108, 100, 61] : List UInt8) ++ d), D.str e])))]⟩) else none := by kernel_rfl
theorem z9_9_4 (lab : Lab) (a : List UInt8) (b : List UInt8) (c : List UInt8) (d : List UInt8) (e : List UInt8) : evL (ΓN mx) Z9 lab 9 9 ⟨[(7, .ptr 0 [] 61), (33, .d 61 (D.agg [D.str ([112, 114, 101, 102, 105, 120, 61] : List UInt8), D.str ([116, 97, 103, 115, 61] : List UInt8), D.str ([100, 97, 121, 115, 61] : List UInt8), D.str ([111, 108, 100, 61] : List UInt8), D.str ([109, 97, 114, 107, 101, 114, 115, 61] : List UInt8)])), (34, .i .i64 4)], [some (.box 61 (.d 61 (D.agg [D.str (([112, 114, 101, 102, 105, 120, 61] : List UInt8) ++ a), D.str (([116, 97, 103, 115, 61] : List UInt8) ++ b), D.str (([100, 97, 121, 115, 61] : List UInt8) ++ c), D.str (([111, 108, 100, 61] : List UInt8) ++ d), D.str e])))]⟩ =
  bif decide (List.length ([109, 97, 114, 107, 101, 114, 115, 61] : List UInt8) + List.length e ≤ maxStr) then (lab (todoAt (ΓN mx) 9 9) ⟨[(7, .ptr 0 [] 61), (33, .d 61 (D.agg [D.str ([112, 114, 101, 102, 105, 120, 61] : List UInt8), D.str ([116, 97, 103, 115, 61] : List UInt8), D.str ([100, 97, 121, 115, 61] : List UInt8), D.str ([111, 108, 100, 61] : List UInt8), D.str ([109, 97, 114, 107, 101, 114, 115, 61] : List UInt8)])), (34, .i .i64 5)], [some (.box 61 (.d 61 (D.agg [D.str (([112, 114, 101, 102, 105, 120, 61] : List UInt8) ++ a), D.str (([116, 97, 103, 115, 61] : List UInt8) ++ b), D.str (([100, 97, 121, 115, 61] : List UInt8) ++ c), D.str (([111, 108, 100, 61] : List UInt8) ++ d), D.str (([109, 97, 114, 107, 101, 114, 115, 61] : List UInt8) ++ e)])))]⟩) else none := by kernel_rfl
theorem z9_9_5 (lab : Lab) (a : List UInt8) (b : List UInt8) (c : List UInt8) (d : List UInt8) (e : List UInt8) : evL (ΓN mx) Z9 lab 9 9 ⟨[(7, .ptr 0 [] 61), (33, .d 61 (D.agg [D.str ([112, 114, 101, 102, 105, 120, 61] : List UInt8), D.str ([116, 97, 103, 115, 61] : List UInt8), D.str ([100, 97, 121, 115, 61] : List UInt8), D.str ([111, 108, 100, 61] : List UInt8), D.str ([109, 97, 114, 107, 101, 114, 115, 61] : List UInt8)])), (34, .i .i64 5)], [some (.box 61 (.d 61 (D.agg [D.str (([112, 114, 101, 102, 105, 120, 61] : List UInt8) ++ a), D.str (([116, 97, 103, 115, 61] : List UInt8) ++ b), D.str (([100, 97, 121, 115, 61] : List UInt8) ++ c), D.str (([111, 108, 100, 61] : List UInt8) ++ d), D.str (([109, 97, 114, 107, 101, 114, 115, 61] : List UInt8) ++ e)])))]⟩ =
  bif joinC ([D.str (([112, 114, 101, 102, 105, 120, 61] : List UInt8) ++ a), D.str (([116, 97, 103, 115, 61] : List UInt8) ++ b), D.str (([100, 97, 121, 115, 61] : List UInt8) ++ c), D.str (([111, 108, 100, 61] : List UInt8) ++ d), D.str (([109, 97, 114, 107, 101, 114, 115, 61] : List UInt8) ++ e)]) ([32] : List UInt8) then (some (.tuple [.s (joinV ([D.str (([112, 114, 101, 102, 105, 120, 61] : List UInt8) ++ a), D.str (([116, 97, 103, 115, 61] : List UInt8) ++ b), D.str (([100, 97, 121, 115, 61] : List UInt8) ++ c), D.str (([111, 108, 100, 61] : List UInt8) ++ d), D.str (([109, 97, 114, 107, 101, 114, 115, 61] : List UInt8) ++ e)]) ([32] : List UInt8)), .i .i64 0], [])) else none := by kernel_rfl
end Go.Proofs.YtjbemleloffafaaGreatDoor.V

/- RulesTexts, RulesBack: contracts of the functions; the laws. -/
namespace Go.Proofs.YtjbemleloffafaaGreatDoor.V
open Go
set_option maxRecDepth 100000
set_option linter.unusedVariables false
set_option linter.unusedSimpArgs false
variable {mx : Int}
open Go.Lib (decFrom decDigits digitVal decNat itoa)
theorem none_okN : CallsOK (ΓN mx) (runS []) := specs_ok .nil
/-! ### the document's number -/
def numG : Nat → Nat → List UInt8 → List UInt8
  | 0, _, s => s
  | f + 1, n, s => if n < 10 then s else numG f (n / 10) (UInt8.ofNat (48 + n / 10 % 10) :: s)
theorem numG_dec : ∀ (f n : Nat) (s : List UInt8), n < 10 ^ f → numG f n (UInt8.ofNat (48 + n % 10) :: s) = decDigits n ++ s
  | 0, n, s, h => by
    have : n = 0 := by simpa using h
    subst this
    rw [dec_small (by decide)]; rfl
  | f + 1, n, s, h => by
    unfold numG
    by_cases hn : n < 10
    · rw [if_pos hn, dec_small hn, Nat.mod_eq_of_lt hn]; rfl
    · rw [if_neg hn, numG_dec f (n / 10) _ (by rw [Nat.pow_succ] at h; omega), dec_big hn, List.append_assoc]; rfl
theorem numG_pos (f n : Nat) (s : List UInt8) (h : ¬ n < 10) : numG (f + 1) n s = numG f (n / 10) (UInt8.ofNat (48 + n / 10 % 10) :: s) := by rw [numG, if_neg h]
theorem kb_dig {R : Type} (n : Nat) (K : List UInt8 → Option R) : kBytes [D.int .u8 (IntKind.wrap .u8 (IntKind.wrap .i64 (48 + (Int.tmod (n : Int) 10))))] K = K [UInt8.ofNat (48 + n % 10)] := by
  have h10 : n % 10 < 10 := Nat.mod_lt _ (by decide)
  have e1 : Int.tmod (n : Int) 10 = ((n % 10 : Nat) : Int) := by rw [Int.tmod_eq_emod_of_nonneg (by omega)]; omega
  rw [e1, wrapI (by omega) (by omega), IntKind.wrap_u8, show ((48 : Int) + ((n % 10 : Nat) : Int)) % 256 = ((48 + n % 10 : Nat) : Int) by omega]
  rfl
theorem gz29 : ∀ (f n : Nat) (s : List UInt8), n < 10 ^ f → n ≤ 36500 → s.length + f ≤ 10 → Goes (ΓN mx) (runS []) 29 2 ⟨[(0, .i .i64 (n : Int)), (3, .s s)], []⟩ (.s (numG f n s), [])
  | 0, n, s, h, _, _ => by
    have : n = 0 := by simpa using h
    subst this
    exact Goes.step ⟨0, by rw [z29_2a]; rfl⟩
  | f + 1, n, s, h, hn, hs => by
    by_cases h10 : n < 10
    · refine Goes.step ⟨0, ?_⟩
      rw [z29_2a, decide_eq_false (show ¬ (n : Int) ≥ 10 by omega), cond_false, numG, if_pos h10]
    · obtain ⟨m, hm⟩ := gz29 f (n / 10) (UInt8.ofNat (48 + n / 10 % 10) :: s) (by rw [Nat.pow_succ] at h; omega) (by omega) (by simp; omega)
      refine Goes.step ⟨m, ?_⟩
      have e2 : IntKind.wrap .i64 (Int.tdiv (n : Int) 10) = ((n / 10 : Nat) : Int) := by rw [Int.tdiv_eq_ediv_of_nonneg (by omega), wrapI (by omega) (by omega)]; omega
      rw [z29_2a, decide_eq_true (show (n : Int) ≥ 10 by omega), cond_true, e2, kb_dig, fits_max (show ([UInt8.ofNat (48 + n / 10 % 10)] : List UInt8).length + s.length ≤ 70368744177664 by simp; omega), cond_true, numG_pos f n s h10]
      exact hm
theorem k29 (n : Int) (h : dayB n = true) : RetX (ΓN mx) 29 [.i .i64 n] [] (.s (itoa n)) [] := by
  unfold dayB at h
  simp only [Bool.and_eq_true, decide_eq_true_eq] at h
  obtain ⟨u, rfl⟩ := Int.eq_ofNat_of_zero_le h.1
  obtain ⟨m, hm⟩ := gz29 (mx := mx) 5 u [UInt8.ofNat (48 + u % 10)] (by omega) (by omega) (by simp)
  rw [numG_dec 5 u [] (by omega), List.append_nil] at hm
  refine ret_goes (Γ := ΓN mx) hPN hZN none_okN (by kernel_rfl) ⟨m, ?_⟩
  rw [z29, kb_dig, itoa_nat]
  exact hm
theorem spDay_ok : SpecOK (ΓN mx) ⟨29, dat spDay⟩ := dat_ok fun args r hr => by
  unfold spDay at hr
  split at hr
  · simp only [Option.some.injEq, Prod.mk.injEq] at hr
    obtain ⟨h1, rfl⟩ := hr
    exact k29 _ h1
  · exact absurd hr (by simp)
/-! ### words, as an object of the caller's own -/
theorem gz35 (s : List UInt8) (hs : s.length ≤ 4194304) : ∀ (rest pre : List UInt8) (i : Int) (done : List D) (cur : List UInt8), s = pre ++ rest → i = (pre.length : Int) → done.length + cur.length ≤ pre.length →
    Goes (ΓN mx) (runS []) 35 3 ⟨[(0, .s s), (3, .ref 9 0), (4, .i .i64 i)], [some (.arr 9 (done ++ [D.str cur]) false)]⟩ (.ref 9 0, [some (.arr 9 (done ++ (catHd cur (spl 32 rest)).map D.str) false)])
  | [], pre, i, done, cur, he, hi, hb => by
    subst hi
    refine Goes.step ⟨0, ?_⟩
    rw [z35_3a, decide_eq_false (show ¬ (pre.length : Int) < (s.length : Int) by rw [he]; simp)]
    simp [spl, catHd]
  | c :: r, pre, i, done, cur, he, hi, hb => by
    subst hi
    have hlen : s.length = pre.length + (r.length + 1) := by rw [he]; simp
    have hid : ∀ {R : Type} (K : UInt8 → Option R), idx s (pre.length : Int) K = K c := fun K => by rw [he]; exact idx_mid pre r _ K
    have hw : IntKind.wrap .i64 ((pre.length : Int) + 1) = (pre.length : Int) + 1 := wrapI (by omega) (by omega)
    have hcut : List.take ((Int.toNat ((pre.length : Int) + 1)) - (Int.toNat (pre.length : Int))) (List.drop (Int.toNat (pre.length : Int)) s) = [c] := by rw [he]; exact cut_one pre r c
    have hsp : spl 32 (c :: r) = if c = 32 then [] :: spl 32 r else consHd c (spl 32 r) := rfl
    by_cases hc : c = 32
    · obtain ⟨n, hn⟩ := gz35 s hs r (pre ++ [c]) ((pre.length : Int) + 1) (done ++ [D.str cur]) [] (by rw [he]; simp) (by simp) (by simp; omega)
      refine Goes.step ⟨n, ?_⟩
      rw [z35_3a, decide_eq_true (show (pre.length : Int) < (s.length : Int) by omega), cond_true, hid, is32, decide_eq_true hc, cond_true, room16b (by simp; omega), cond_true, hw, hn, hsp, if_pos hc, catHd_nil (spl_ne 32 r)]
      simp [catHd]
    · obtain ⟨n, hn⟩ := gz35 s hs r (pre ++ [c]) ((pre.length : Int) + 1) done (cur ++ [c]) (by rw [he]; simp) (by simp) (by simp; omega)
      refine Goes.step ⟨n, ?_⟩
      have hL : ((done ++ [D.str cur]).length : Int) = (done.length : Int) + 1 := by simp
      have hw2 : IntKind.wrap .i64 (((done ++ [D.str cur]).length : Int) - 1) = (done.length : Int) := by rw [hL, show (done.length : Int) + 1 - 1 = (done.length : Int) by omega]; exact wrapI (by omega) (by omega)
      rw [z35_3a, decide_eq_true (show (pre.length : Int) < (s.length : Int) by omega), cond_true, hid, is32, decide_eq_false hc, cond_false]
      simp only [hw2, hw, hcut]
      rw [decide_eq_true (show (0 : Int) ≤ (done.length : Int) by omega), decide_eq_true (show (done.length : Int) < ((done ++ [D.str cur]).length : Int) by omega), decide_eq_true (show (0 : Int) ≤ (pre.length : Int) + 1 by omega), decide_eq_true (show (pre.length : Int) + 1 ≤ (s.length : Int) by omega), decide_eq_true (show (0 : Int) ≤ (pre.length : Int) by omega), decide_eq_true (show (pre.length : Int) ≤ (Int.toNat ((pre.length : Int) + 1) : Int) by omega)]
      have hm : decide (cur.length + [c].length ≤ maxStr) = true := fits_max (show cur.length + [c].length ≤ 70368744177664 by simp; omega)
      simp only [hm, Bool.and_self, cond_true, Int.toNat_natCast, lget_end, dStr, List.set_append_right _ _ (Nat.le_refl _), Nat.sub_self, List.set_cons_zero]
      rw [hn, hsp, if_neg hc, catHd_cons cur c (spl_ne 32 r)]
theorem k35 (p : List UInt8) (h : short p = true) : RetX (ΓN mx) 35 [.s p] [] (.ref 9 0) [some (.arr 9 (splitC 32 p) false)] := by
  obtain ⟨n, hn⟩ := gz35 (mx := mx) p (short_le h) p [] 0 [] [] rfl rfl (Nat.le_refl _)
  rw [catHd_nil (spl_ne 32 p), ← split_spl] at hn
  exact ret_goes (Γ := ΓN mx) hPN hZN none_okN (by kernel_rfl) ⟨n, by rw [z35]; exact hn⟩
theorem max_cellN {w : World} {S : Addr → Prop} (h : GlobOK (ΓN mx) w S) : w.cell? ⟨4, 0, none⟩ = some (.int .i64 mx) := by
  obtain ⟨vs, h1, h2, _⟩ := h.data 4 3 (.int .i64 mx) rfl
  exact glob_int h1 h2
theorem split_refN (c : UInt8) (s : List UInt8) (h : s32 s = true) : RetX (ΓN mx) 30 [.s s, .s [c]] [] (.ref 9 0) [some (.arr 9 (splitC c s) false)] := by
  intro w S σ X vals hX hM ha
  simp only [RepAs, RepA] at ha
  obtain ⟨v, _, rfl, ⟨s, rfl, rfl⟩, v', _, rfl, ⟨u, hu, rfl⟩, rfl⟩ := ha
  obtain rfl := ba_eq hu
  rw [run_entered (P := (ΓN mx).P) (by kernel_rfl)]
  refine Calls.mono (Any.strings_Split Lg.lays146 (by kernel_rfl) s ⟨#[c]⟩ mx w (by simpa [s32] using h) (max_cellN hM.glob) (sep_ne c)) fun e w' ⟨he, hw⟩ => ?_
  have hl := Lib.splitB_all ⟨#[c]⟩ (sep_ne c) 0 _ s rfl
  have hd := Lib.splitB_data ⟨#[c]⟩ 0 (Lib.countB s ⟨#[c]⟩) s
  have hx : splitC c s.data.toList = (Lib.splitB ⟨#[c]⟩ 0 (Lib.countB s ⟨#[c]⟩) s).map fun b => D.str b.data.toList := by
    have : Lib.split s.data.toList [c] = (Lib.splitB ⟨#[c]⟩ 0 (Lib.countB s ⟨#[c]⟩) s).map (·.data.toList) := hd.symm
    unfold splitC
    rw [this, List.map_map]
    rfl
  have hn : (splitC c s.data.toList).length = Lib.countB s ⟨#[c]⟩ + 1 := by rw [hx, List.length_map, hl]
  have hfs := fs_strs (P := (ΓN mx).P) (w := w) (S := S) (e := 9) (by kernel_rfl) (by kernel_rfl) (Lib.splitB ⟨#[c]⟩ 0 (Lib.countB s ⟨#[c]⟩) s)
  obtain ⟨σ', t1, t2⟩ := newArr_ok (Γ := ΓN mx) (e := 9) (el := 9) (d := .string) (xs := splitC c s.data.toList) (cap := Lib.countB s ⟨#[c]⟩ + 1) (w' := w') (fr := (0, 0)) hPN hM false (by kernel_rfl) (by rw [hw]; rfl)
    (by rw [show (ΓN mx).P.cellsOf 9 = 1 from by kernel_rfl]; simp [hl]) (by rw [hn]; exact Nat.le_refl _)
    (vs := (Lib.splitB ⟨#[c]⟩ 0 (Lib.countB s ⟨#[c]⟩) s).map Value.string) (by rw [hx, List.length_map]; exact hfs) (fun j v hj => by simpa using hj) (hev := by rw [hw]; exact ⟨rfl, rfl⟩)
  refine ⟨_, he, S, σ', t1.ok, t1.keeps, ?_⟩
  rw [hn] at t2
  exact t2
theorem xSplN_ok : SpecOK (ΓN mx) ⟨30, xSpl⟩ := by
  intro args obs r obs' hr
  change xSpl args obs = some (true, r, obs') at hr
  unfold xSpl at hr
  split at hr
  · simp only [Option.some.injEq, Prod.mk.injEq] at hr
    obtain ⟨h1, rfl, rfl⟩ := hr
    exact split_refN _ _ h1
  · exact absurd hr (by simp)
theorem xWds_ok : SpecOK (ΓN mx) ⟨35, xWds⟩ := by
  intro args obs r obs' hr
  change xWds args obs = some (true, r, obs') at hr
  unfold xWds at hr
  split at hr
  · simp only [Option.some.injEq, Prod.mk.injEq] at hr
    obtain ⟨h1, rfl, rfl⟩ := hr
    exact k35 _ h1
  · exact absurd hr (by simp)
theorem spJN_ok : SpecOK (ΓN mx) ⟨26, dat (spJ joinC joinV)⟩ := dat_ok fun args r hr => by
  unfold spJ at hr
  split at hr
  · simp only [Option.some.injEq, Prod.mk.injEq] at hr
    obtain ⟨h1, rfl⟩ := hr
    exact (join_ret _ _ _ h1).bigN (by kernel_rfl)
  · exact absurd hr (by simp)
theorem zh10_ok : CallsOK (ΓN mx) Z10 := specs_ok (.cons (spL1_ok (fun l h => (k16 l h).bigN (by kernel_rfl))) (.cons (spL1s_ok (fun l h => (c33 l h).bigN (by kernel_rfl))) (.cons (sp1_ok (fun p h => (c58 p h).bigN (by kernel_rfl))) (.cons (spDay_ok) .nil))))
theorem zh11_ok : CallsOK (ΓN mx) Z11 := specs_ok (.cons (xSplN_ok) (.cons (sp2_ok (fun a b h => (k31 a b h).bigN (by kernel_rfl))) (.cons (sp1_ok (fun p h => (c60 p h).bigN (by kernel_rfl))) (.cons (sp1_ok k33) (.cons (sp1_ok (fun p h => (c34 p h).bigN (by kernel_rfl))) (.cons (spD1_ok (fun r h => (c93 r h).bigN (by kernel_rfl))) .nil))))))
theorem zh12_ok : CallsOK (ΓN mx) Z12 := specs_ok (.cons (xWds_ok) (.cons (sp2_ok (fun a b h => (k36 a b h).bigN (by kernel_rfl))) (.cons (sp1_ok (fun p h => (c49 p h).bigN (by kernel_rfl))) (.cons (sp1_ok fun p _ => (k38 p).bigN (by kernel_rfl)) (.cons (sp1_ok (fun p h => (c35 p h).bigN (by kernel_rfl))) (.cons (spL1_ok (fun l h => (k16 l h).bigN (by kernel_rfl))) .nil))))))
theorem zh9_ok : CallsOK (ΓN mx) Z9 := specs_ok (.cons (spD1_ok (fun r h => (c93 r h).bigN (by kernel_rfl))) (.cons (spL1s_ok (fun l h => (c32 l h).bigN (by kernel_rfl))) (.cons (sp1_ok (fun p h => (c57 p h).bigN (by kernel_rfl))) (.cons (spIt_ok) (.cons (spJN_ok) .nil)))))
/-! ### five parts -/
theorem five {α : Type} (l : List α) : (∃ a b c d e, l = [a, b, c, d, e]) ∨ l.length ≠ 5 := by
  match l with
  | [] | [_] | [_, _] | [_, _, _] | [_, _, _, _] | _ :: _ :: _ :: _ :: _ :: _ :: _ => exact .inr (by simp)
  | [a, b, c, d, e] => exact .inl ⟨a, b, c, d, e, rfl⟩
theorem rpQ_ne {l : List (List UInt8)} (h : l.length ≠ 5) : rpQ l = (5, ru0) := by
  unfold rpQ cut5
  split
  · rename_i q hq
    split at hq
    · exact absurd rfl h
    · exact absurd hq (by simp)
  · rfl
theorem rpQ_no {a b c d e : List UInt8} (h : (hpB a wPre && (hpB b wTag && (hpB c wDay && (hpB d wOld && hpB e wMar)))) = false) : rpQ [a, b, c, d, e] = (5, ru0) := by
  have : cut5 [a, b, c, d, e] = none := by
    show (bif (hpB a wPre && (hpB b wTag && (hpB c wDay && (hpB d wOld && hpB e wMar)))) then _ else none) = none
    rw [h]; rfl
  unfold rpQ; rw [this]
theorem rpQ_yes {a b c d e : List UInt8} (h : (hpB a wPre && (hpB b wTag && (hpB c wDay && (hpB d wOld && hpB e wMar)))) = true) : rpQ [a, b, c, d, e] = rp5 (a.drop 7, b.drop 5, c.drop 5, d.drop 4, e.drop 8) := by
  have : cut5 [a, b, c, d, e] = some (a.drop 7, b.drop 5, c.drop 5, d.drop 4, e.drop 8) := by
    show (bif (hpB a wPre && (hpB b wTag && (hpB c wDay && (hpB d wOld && hpB e wMar)))) then _ else none) = _
    rw [h]; rfl
  unfold rpQ; rw [this]
theorem cp_drop {s p : List UInt8} (h : hpB s p = true) : cpS s p = s.drop p.length := by unfold cpS; rw [h]; rfl
theorem hp_le {s p : List UInt8} (h : hpB s p = true) : p.length ≤ s.length := by
  unfold hpB at h
  simp only [Bool.and_eq_true, decide_eq_true_eq] at h
  exact h.1
theorem take_drop (n : Nat) (s : List UInt8) : List.take (s.length - n) (List.drop n s) = List.drop n s := List.take_of_length_le (by rw [List.length_drop]; exact Nat.le_refl _)
theorem rcR {A B : List UInt8} (hA : short A = true) (hB : short B = true) (a b : Int) (m : Bool) : rC (D.agg [D.str (unS A), D.slice .any (psL B), D.int .i64 a, D.int .i64 b, D.bool m]) = true := by
  have u := unS_len A
  have hl := short_le hA
  show (short (unS A) && tC (psL B)) = true
  rw [short_of (by omega), tC_ps hB]; rfl
theorem rsC1 {r : D} (h : rC r = true) : rsC [r] = true := by unfold rsC; rw [List.all_cons, h]; rfl
theorem rsB1 (r : D) : rsB [r] = rGood r := by unfold rsB rsA; rw [List.all_cons]; cases rGood r <;> rfl
theorem nm_neg (s : List UInt8) : decide (nmR s < 0) = !nmB s := by
  rw [nmR_nmB]
  cases h : nmB s with
  | true => have := (nmB_eq h).2.1; exact decide_eq_false (by rw [cond_true]; omega)
  | false => rfl
theorem nm_at {s : List UInt8} (h : nmB s = true) : nmR s = atZ s := by rw [nmR_nmB, h]; rfl
theorem k11 (s : List UInt8) (h : short s = true) : RetX (ΓN mx) 11 [.s s] [] (.tuple [.d 35 (rpD s), .i .i64 (rpE s)]) [] := by
  have hl := short_le h
  have h32 : s32 s = true := by unfold s32; exact decide_eq_true (by omega)
  have hlen := spl_len 32 s
  have hS : splitC 32 s = (spl 32 s).map D.str := by unfold splitC; rw [split_spl]
  refine ret_goes (Γ := ΓN mx) hPN hZN zh11_ok (by kernel_rfl) ⟨0 + 1 + 1 + 1 + 1 + 1 + 1, ?_⟩
  rw [z11, h32, cond_true, hS]
  unfold rpD rpE
  revert hlen
  generalize spl 32 s = l
  intro hlen
  rcases five l with ⟨a, b, c, d, e, rfl⟩ | h5
  · simp only [List.map_cons, List.map_nil]
    rw [show ((([D.str a, D.str b, D.str c, D.str d, D.str e].length : Nat) : Int) != 5) = false from rfl, cond_false]
    cases h0 : hpB a ([112, 114, 101, 102, 105, 120, 61] : List UInt8) with
    | false =>
      rw [rpQ_no (by rw [show hpB a wPre = false from h0]; rfl), L_succ, z11_5_0, h0]; rfl
    | true =>
    rw [L_succ, z11_5_0, h0, Bool.not_true, cond_false]
    cases h1 : hpB b ([116, 97, 103, 115, 61] : List UInt8) with
    | false =>
      rw [rpQ_no (by rw [show hpB a wPre = true from h0, show hpB b wTag = false from h1]; rfl), L_succ, z11_5_1, h1]; rfl
    | true =>
    rw [L_succ, z11_5_1, h1, Bool.not_true, cond_false]
    cases h2 : hpB c ([100, 97, 121, 115, 61] : List UInt8) with
    | false =>
      rw [rpQ_no (by rw [show hpB a wPre = true from h0, show hpB b wTag = true from h1, show hpB c wDay = false from h2]; rfl), L_succ, z11_5_2, h2]; rfl
    | true =>
    rw [L_succ, z11_5_2, h2, Bool.not_true, cond_false]
    cases h3 : hpB d ([111, 108, 100, 61] : List UInt8) with
    | false =>
      rw [rpQ_no (by rw [show hpB a wPre = true from h0, show hpB b wTag = true from h1, show hpB c wDay = true from h2, show hpB d wOld = false from h3]; rfl), L_succ, z11_5_3, h3]; rfl
    | true =>
    rw [L_succ, z11_5_3, h3, Bool.not_true, cond_false]
    cases h4 : hpB e ([109, 97, 114, 107, 101, 114, 115, 61] : List UInt8) with
    | false =>
      rw [rpQ_no (by rw [show hpB a wPre = true from h0, show hpB b wTag = true from h1, show hpB c wDay = true from h2, show hpB d wOld = true from h3, show hpB e wMar = false from h4]; rfl), L_succ, z11_5_4, h4]; rfl
    | true =>
    rw [L_succ, z11_5_4, h4, Bool.not_true, cond_false]
    rw [rpQ_yes (by rw [show hpB a wPre = true from h0, show hpB b wTag = true from h1, show hpB c wDay = true from h2, show hpB d wOld = true from h3, show hpB e wMar = true from h4]; rfl)]
    have s0 : short (List.drop 7 a) = true := short_of (by have := hlen a (by simp); rw [List.length_drop]; omega)
    have e0 : cpS a ([112, 114, 101, 102, 105, 120, 61] : List UInt8) = List.drop 7 a := cp_drop h0
    have s1 : short (List.drop 5 b) = true := short_of (by have := hlen b (by simp); rw [List.length_drop]; omega)
    have e1 : cpS b ([116, 97, 103, 115, 61] : List UInt8) = List.drop 5 b := cp_drop h1
    have s2 : short (List.drop 5 c) = true := short_of (by have := hlen c (by simp); rw [List.length_drop]; omega)
    have e2 : cpS c ([100, 97, 121, 115, 61] : List UInt8) = List.drop 5 c := cp_drop h2
    have s3 : short (List.drop 4 d) = true := short_of (by have := hlen d (by simp); rw [List.length_drop]; omega)
    have e3 : cpS d ([111, 108, 100, 61] : List UInt8) = List.drop 4 d := cp_drop h3
    have s4 : short (List.drop 8 e) = true := short_of (by have := hlen e (by simp); rw [List.length_drop]; omega)
    have e4 : cpS e ([109, 97, 114, 107, 101, 114, 115, 61] : List UInt8) = List.drop 8 e := cp_drop h4
    rw [L_succ, z11_5_5, e0, e1, e2, e3, e4, s0, s2, s3]
    generalize List.drop 7 a = A at s0
    generalize List.drop 5 b = B at s1
    generalize List.drop 5 c = C
    generalize List.drop 4 d = E
    generalize List.drop 8 e = F
    show _ = some (AV.tuple [.d 35 (rp5 (A, B, C, E, F)).2, .i .i64 (rp5 (A, B, C, E, F)).1], [])
    unfold rp5 ru0 ruD okM
    simp only [cond_true, s1, rcR s0 s1]
    rw [show (unE A != 0) = !(unE A == 0) from rfl, show (psE B != 0) = !(psE B == 0) from rfl]
    cases hu : unE A == 0
    · rfl
    cases hc : nmB C
    · rfl
    cases hd : nmB E
    · rfl
    cases h48 : F == [48] <;> cases h49 : F == [49] <;> first
      | rfl
      | (cases hps : psE B == 0
         · rfl
         · simp only [Bool.not_true, cond_false, Bool.and_self, cond_true, Bool.or_true, Bool.true_or, Bool.not_false]
           generalize rGood _ = g
           cases g <;> rfl)
  · rw [rpQ_ne h5, show (((List.map D.str l).length : Int) != 5) = true by simp; omega, cond_true]; rfl
theorem k12 (s : List UInt8) (h : short s = true) : RetX (ΓN mx) 12 [.s s] [] (.tuple [.d 35 (rpD s), .i .i64 (rpE s)]) [] := by
  have hl := short_le h
  have h32 : s32 s = true := by unfold s32; exact decide_eq_true (by omega)
  have hlen := spl_len 32 s
  have hS : splitC 32 s = (spl 32 s).map D.str := by unfold splitC; rw [split_spl]
  refine ret_goes (Γ := ΓN mx) hPN hZN zh12_ok (by kernel_rfl) ⟨0 + 1 + 1 + 1 + 1 + 1 + 1, ?_⟩
  rw [z12, h, cond_true, hS]
  unfold rpD rpE
  revert hlen
  generalize spl 32 s = l
  intro hlen
  rcases five l with ⟨a, b, c, d, e, rfl⟩ | h5
  · simp only [List.map_cons, List.map_nil]
    rw [show ((([D.str a, D.str b, D.str c, D.str d, D.str e].length : Nat) : Int) != 5) = false from rfl, cond_false]
    cases h0 : hpB a ([112, 114, 101, 102, 105, 120, 61] : List UInt8) with
    | false =>
      rw [rpQ_no (by rw [show hpB a wPre = false from h0]; rfl), L_succ, z12_6_0, h0]; rfl
    | true =>
    have l0 : 7 ≤ a.length := hp_le h0
    rw [L_succ, z12_6_0, h0, Bool.not_true, cond_false, decide_eq_true (show (0 : Int) ≤ 7 by decide), decide_eq_true (show (7 : Int) ≤ (List.length a : Int) by omega), Bool.and_self, cond_true]
    cases h1 : hpB b ([116, 97, 103, 115, 61] : List UInt8) with
    | false =>
      rw [rpQ_no (by rw [show hpB a wPre = true from h0, show hpB b wTag = false from h1]; rfl), L_succ, z12_6_1, h1]; rfl
    | true =>
    have l1 : 5 ≤ b.length := hp_le h1
    rw [L_succ, z12_6_1, h1, Bool.not_true, cond_false, decide_eq_true (show (0 : Int) ≤ 5 by decide), decide_eq_true (show (5 : Int) ≤ (List.length b : Int) by omega), Bool.and_self, cond_true]
    cases h2 : hpB c ([100, 97, 121, 115, 61] : List UInt8) with
    | false =>
      rw [rpQ_no (by rw [show hpB a wPre = true from h0, show hpB b wTag = true from h1, show hpB c wDay = false from h2]; rfl), L_succ, z12_6_2, h2]; rfl
    | true =>
    have l2 : 5 ≤ c.length := hp_le h2
    rw [L_succ, z12_6_2, h2, Bool.not_true, cond_false, decide_eq_true (show (0 : Int) ≤ 5 by decide), decide_eq_true (show (5 : Int) ≤ (List.length c : Int) by omega), Bool.and_self, cond_true]
    cases h3 : hpB d ([111, 108, 100, 61] : List UInt8) with
    | false =>
      rw [rpQ_no (by rw [show hpB a wPre = true from h0, show hpB b wTag = true from h1, show hpB c wDay = true from h2, show hpB d wOld = false from h3]; rfl), L_succ, z12_6_3, h3]; rfl
    | true =>
    have l3 : 4 ≤ d.length := hp_le h3
    rw [L_succ, z12_6_3, h3, Bool.not_true, cond_false, decide_eq_true (show (0 : Int) ≤ 4 by decide), decide_eq_true (show (4 : Int) ≤ (List.length d : Int) by omega), Bool.and_self, cond_true]
    cases h4 : hpB e ([109, 97, 114, 107, 101, 114, 115, 61] : List UInt8) with
    | false =>
      rw [rpQ_no (by rw [show hpB a wPre = true from h0, show hpB b wTag = true from h1, show hpB c wDay = true from h2, show hpB d wOld = true from h3, show hpB e wMar = false from h4]; rfl), L_succ, z12_6_4, h4]; rfl
    | true =>
    have l4 : 8 ≤ e.length := hp_le h4
    rw [L_succ, z12_6_4, h4, Bool.not_true, cond_false, decide_eq_true (show (0 : Int) ≤ 8 by decide), decide_eq_true (show (8 : Int) ≤ (List.length e : Int) by omega), Bool.and_self, cond_true]
    rw [rpQ_yes (by rw [show hpB a wPre = true from h0, show hpB b wTag = true from h1, show hpB c wDay = true from h2, show hpB d wOld = true from h3, show hpB e wMar = true from h4]; rfl)]
    have s0 : short (List.drop 7 a) = true := short_of (by have := hlen a (by simp); rw [List.length_drop]; omega)
    have s1 : short (List.drop 5 b) = true := short_of (by have := hlen b (by simp); rw [List.length_drop]; omega)
    have s2 : short (List.drop 5 c) = true := short_of (by have := hlen c (by simp); rw [List.length_drop]; omega)
    have s3 : short (List.drop 4 d) = true := short_of (by have := hlen d (by simp); rw [List.length_drop]; omega)
    have s4 : short (List.drop 8 e) = true := short_of (by have := hlen e (by simp); rw [List.length_drop]; omega)
    rw [L_succ, z12_6_5, take_drop, take_drop, take_drop, take_drop, take_drop, s0]
    generalize List.drop 7 a = A at s0
    generalize List.drop 5 b = B at s1
    generalize List.drop 5 c = C
    generalize List.drop 4 d = E
    generalize List.drop 8 e = F
    show _ = some (AV.tuple [.d 35 (rp5 (A, B, C, E, F)).2, .i .i64 (rp5 (A, B, C, E, F)).1], [])
    unfold rp5 ru0 ruD okM
    simp only [cond_true, s1, rsC1 (rcR s0 s1 _ _ _), rsB1, nm_neg]
    rw [show (unE A != 0) = !(unE A == 0) from rfl, show (psE B != 0) = !(psE B == 0) from rfl]
    cases hu : unE A == 0
    · rfl
    cases hc : nmB C
    · rfl
    cases hd : nmB E
    · rfl
    rw [nm_at hc, nm_at hd]
    cases h48 : F == [48] <;> cases h49 : F == [49] <;> first
      | rfl
      | (cases hps : psE B == 0
         · rfl
         · simp only [Bool.not_true, cond_false, Bool.and_self, cond_true, Bool.or_true, Bool.true_or, Bool.not_false]
           generalize rGood _ = g
           cases g <;> rfl)
  · rw [rpQ_ne h5, show (((List.map D.str l).length : Int) != 5) = true by simp; omega, cond_true]; rfl
/-! ### a rule's text -/
theorem rt_all {p : List UInt8} {c : Cp} {t : List D} {a b : Int} {m : Bool} (h : rGood (ruD p c t a b m) = true) :
    (escV p).length ≤ 600 ∧ (txS t).length ≤ 4000 ∧ (itoa a).length ≤ 5 ∧ (itoa b).length ≤ 5 ∧ dayB a = true ∧ dayB b = true ∧ i64B a = true ∧ i64B b = true := by
  obtain ⟨h1, h2, h3, h4, h5, h6⟩ := good_ruD h
  have l1 := esc_len p
  have l2 : (txS t).length ≤ 4000 := by
    unfold txS
    rw [h2, cond_true]
    have g1 := joinT_len (ts_good h2)
    have g2 := ts_len h2
    omega
  refine ⟨by omega, l2, (num_ok h3 h4).2.2.2, (num_ok h5 h6).2.2.2, ?_, ?_, ?_, ?_⟩
  · unfold dayB; rw [decide_eq_true h3, decide_eq_true h4]; rfl
  · unfold dayB; rw [decide_eq_true h5, decide_eq_true h6]; rfl
  · unfold i64B; rw [decide_eq_true (show (-9223372036854775808 : Int) ≤ a by omega), decide_eq_true (show a ≤ (9223372036854775807 : Int) by omega)]; rfl
  · unfold i64B; rw [decide_eq_true (show (-9223372036854775808 : Int) ≤ b by omega), decide_eq_true (show b ≤ (9223372036854775807 : Int) by omega)]; rfl
theorem joinV5 (a b c d e : List UInt8) : joinV [.str a, .str b, .str c, .str d, .str e] [32] = Lib.join [a, b, c, d, e] [32] := rfl
theorem str5 (a b c d e : List UInt8) : ([.str a, .str b, .str c, .str d, .str e] : List D).all isStr = true := rfl
theorem joinC5 {a b c d e : List UInt8} (h : (Lib.join [a, b, c, d, e] [32]).length ≤ 4194304) : joinC [.str a, .str b, .str c, .str d, .str e] [32] = true := by
  unfold joinC
  rw [str5, joinV5, decide_eq_true (Nat.le_trans h (by decide) : (Lib.join [a, b, c, d, e] [32]).length ≤ 140737488355328)]; rfl
theorem rtS_good {p : List UInt8} {c : Cp} {t : List D} {a b : Int} {m : Bool} (h : rGood (D.agg [D.str p, D.slice c t, D.int .i64 a, D.int .i64 b, D.bool m]) = true) :
    rtS (D.agg [D.str p, D.slice c t, D.int .i64 a, D.int .i64 b, D.bool m]) = Lib.join [([112, 114, 101, 102, 105, 120, 61] : List UInt8) ++ escV p, ([116, 97, 103, 115, 61] : List UInt8) ++ txS t, ([100, 97, 121, 115, 61] : List UInt8) ++ itoa a, ([111, 108, 100, 61] : List UInt8) ++ itoa b, ([109, 97, 114, 107, 101, 114, 115, 61] : List UInt8) ++ mkW m] [32] := by
  unfold rtS; rw [h]; rfl
theorem rtE_good {r : D} (h : rGood r = true) : rtE r = 0 := by unfold rtE; rw [h]; rfl
theorem g9 (a b c d e : List UInt8) (ha : a.length ≤ 4000) (hb : b.length ≤ 4000) (hc : c.length ≤ 4000) (hd : d.length ≤ 4000) (he : e.length ≤ 4000) (hs : (Lib.join [([112, 114, 101, 102, 105, 120, 61] : List UInt8) ++ a, ([116, 97, 103, 115, 61] : List UInt8) ++ b, ([100, 97, 121, 115, 61] : List UInt8) ++ c, ([111, 108, 100, 61] : List UInt8) ++ d, ([109, 97, 114, 107, 101, 114, 115, 61] : List UInt8) ++ e] [32]).length ≤ 4194304) :
    L (ΓN mx) Z9 9 (0 + 1 + 1 + 1 + 1 + 1 + 1) (todoAt (ΓN mx) 9 9) ⟨[(7, .ptr 0 [] 61), (33, .d 61 (D.agg [D.str ([112, 114, 101, 102, 105, 120, 61] : List UInt8), D.str ([116, 97, 103, 115, 61] : List UInt8), D.str ([100, 97, 121, 115, 61] : List UInt8), D.str ([111, 108, 100, 61] : List UInt8), D.str ([109, 97, 114, 107, 101, 114, 115, 61] : List UInt8)])), (34, .i .i64 0)], [some (.box 61 (.d 61 (D.agg [D.str a, D.str b, D.str c, D.str d, D.str e])))]⟩ = some (.tuple [.s (Lib.join [([112, 114, 101, 102, 105, 120, 61] : List UInt8) ++ a, ([116, 97, 103, 115, 61] : List UInt8) ++ b, ([100, 97, 121, 115, 61] : List UInt8) ++ c, ([111, 108, 100, 61] : List UInt8) ++ d, ([109, 97, 114, 107, 101, 114, 115, 61] : List UInt8) ++ e] [32]), .i .i64 0], []) := by
  rw [L_succ, z9_9_0, fits_max (show List.length ([112, 114, 101, 102, 105, 120, 61] : List UInt8) + List.length a ≤ 70368744177664 by simp only [List.length_cons, List.length_nil]; omega), cond_true]
  rw [L_succ, z9_9_1, fits_max (show List.length ([116, 97, 103, 115, 61] : List UInt8) + List.length b ≤ 70368744177664 by simp only [List.length_cons, List.length_nil]; omega), cond_true]
  rw [L_succ, z9_9_2, fits_max (show List.length ([100, 97, 121, 115, 61] : List UInt8) + List.length c ≤ 70368744177664 by simp only [List.length_cons, List.length_nil]; omega), cond_true]
  rw [L_succ, z9_9_3, fits_max (show List.length ([111, 108, 100, 61] : List UInt8) + List.length d ≤ 70368744177664 by simp only [List.length_cons, List.length_nil]; omega), cond_true]
  rw [L_succ, z9_9_4, fits_max (show List.length ([109, 97, 114, 107, 101, 114, 115, 61] : List UInt8) + List.length e ≤ 70368744177664 by simp only [List.length_cons, List.length_nil]; omega), cond_true]
  rw [L_succ, z9_9_5, joinC5 hs, cond_true, joinV5]
theorem k9 (r : D) (h : rC r = true) : RetX (ΓN mx) 9 [.d 35 r] [] (.tuple [.s (rtS r), .i .i64 (rtE r)]) [] := by
  have hs := short_le (short_rt r h)
  obtain ⟨p, c, t, a, b, m, rfl, hp, ht⟩ := rC_ex h
  refine ret_goes (Γ := ΓN mx) hPN hZN zh9_ok (by kernel_rfl) ⟨0 + 1 + 1 + 1 + 1 + 1 + 1, ?_⟩
  rw [z9, h, cond_true]
  cases hg : rGood (D.agg [D.str p, D.slice c t, D.int .i64 a, D.int .i64 b, D.bool m]) with
  | false => unfold rtS rtE; rw [hg]; rfl
  | true =>
  obtain ⟨l1, l2, l3, l4, d1, d2, i1, i2⟩ := rt_all (p := p) (c := c) (t := t) (a := a) (b := b) (m := m) hg
  have hS := rtS_good hg
  have hE := rtE_good hg
  rw [hS] at hs
  rw [hS, hE, ht, hp, i1, i2]
  revert l1 l2 l3 l4 hs
  clear hS hE hg h hp ht d1 d2 i1 i2
  generalize escV p = A
  generalize txS t = B
  generalize itoa a = C
  generalize itoa b = E
  intro hs l1 l2 l3 l4
  cases m
  · rw [Bool.not_true]
    repeat (first | rw [cond_true] | rw [cond_false])
    exact g9 A B C E [48] (by omega) (by omega) (by omega) (by omega) (by decide) hs
  · rw [Bool.not_true]
    repeat (first | rw [cond_true] | rw [cond_false])
    exact g9 A B C E [49] (by omega) (by omega) (by omega) (by omega) (by decide) hs
theorem k10 (r : D) (h : rC r = true) : RetX (ΓN mx) 10 [.d 35 r] [] (.tuple [.s (rtS r), .i .i64 (rtE r)]) [] := by
  obtain ⟨p, c, t, a, b, m, rfl, hp, ht⟩ := rC_ex h
  refine ret_goes (Γ := ΓN mx) hPN hZN zh10_ok (by kernel_rfl) ⟨0, ?_⟩
  rw [z10, rsC1 h, rsB1, cond_true]
  cases hg : rGood (D.agg [D.str p, D.slice c t, D.int .i64 a, D.int .i64 b, D.bool m]) with
  | false => unfold rtS rtE; rw [hg]; rfl
  | true =>
  obtain ⟨l1, l2, l3, l4, d1, d2, i1, i2⟩ := rt_all (p := p) (c := c) (t := t) (a := a) (b := b) (m := m) hg
  have hS : rtS (D.agg [D.str p, D.slice c t, D.int .i64 a, D.int .i64 b, D.bool m]) = Lib.join [wPre ++ escV p, wTag ++ txS t, wDay ++ itoa a, wOld ++ itoa b, wMar ++ mkW m] [32] := by unfold rtS; rw [hg]; rfl
  have hE : rtE (D.agg [D.str p, D.slice c t, D.int .i64 a, D.int .i64 b, D.bool m]) = 0 := by unfold rtE; rw [hg]; rfl
  rw [hS, hE, ht, hp, d1, d2, join5]
  have fm : ∀ x y : List UInt8, x.length + y.length ≤ 70368744177664 → decide (List.length x + List.length y ≤ maxStr) = true := fun x y h => fits_max h
  cases m
  all_goals
    simp only [Bool.not_true, cond_false, cond_true]
    rw [fm _ _ (by simp only [List.length_append, List.length_cons, List.length_nil]; omega), cond_true]
    rw [fm _ _ (by simp only [List.length_append, List.length_cons, List.length_nil]; omega), cond_true]
    rw [fm _ _ (by simp only [List.length_append, List.length_cons, List.length_nil]; omega), cond_true]
    rw [fm _ _ (by simp only [List.length_append, List.length_cons, List.length_nil]; omega), cond_true]
    rw [fm _ _ (by simp only [List.length_append, List.length_cons, List.length_nil]; omega), cond_true]
    rw [fm _ _ (by simp only [List.length_append, List.length_cons, List.length_nil]; omega), cond_true]
    rw [fm _ _ (by simp only [List.length_append, List.length_cons, List.length_nil]; omega), cond_true]
    rw [fm _ _ (by simp only [List.length_append, List.length_cons, List.length_nil]; omega), cond_true]
    rw [fm _ _ (by simp only [List.length_append, List.length_cons, List.length_nil]; omega), cond_true]
    congr 1
    simp [wPre, wTag, wDay, wOld, wMar, mkW]
/-! ### awake -/
def HN : Handle := runS [⟨30, xSpl⟩, ⟨32, dat (sp1 short fun p => .tuple [.s (unS p), .i .i64 (unE p)])⟩, ⟨34, dat (sp1 short fun p => .tuple [.sl 84 .any (psL p), .i .i64 (psE p)])⟩, ⟨22, dat (spD1 35 rC fun r => .b (rGood r))⟩, ⟨20, dat (spLDt 35 24 (fun l o => rsC l && oC o) fun l o t => .tuple [.i .u64 (dueI l o t), .b (dueM l o t), .i .i64 (dueE l o)])⟩]
theorem hN_ok : CallsOK (ΓN mx) HN := specs_ok (.cons xSplN_ok (.cons (sp1_ok fun p h => (c60 p h).bigN (by kernel_rfl)) (.cons (sp1_ok fun p h => (c34 p h).bigN (by kernel_rfl)) (.cons (spD1_ok fun p h => (c93 p h).bigN (by kernel_rfl)) (.cons (spLDt_ok fun l o t h => (c36 l o t h).bigN (by kernel_rfl)) .nil)))))
theorem awake_runN : callN (ΓN mx) HN 60 8 [] [] = some (true, .b true, []) := by kernel_rfl
theorem k8N (_ : true = true) : RetX (ΓN mx) 8 [] [] (.b true) [] := ret_run hPN hZN hNN hN_ok awake_runN
/-! ### the same rules -/
def srC : List D → List D → Bool
  | [x], [y] => rC x && rC y
  | _, _ => false
def srV : List D → List D → Bool
  | [x], [y] => sameR x y
  | _, _ => false
theorem srC1 {x y : D} (hx : rC x = true) (hy : rC y = true) : srC [x] [y] = true := by
  show (rC x && rC y) = true
  rw [hx, hy]; rfl
theorem k13L (a b : List D) (h : srC a b = true) : RetX (Γ mx) 13 [.sl 35 .any a, .sl 35 .any b] [] (.b (srV a b)) [] := by
  unfold srC at h
  split at h
  · simp only [Bool.and_eq_true] at h
    exact k13 _ _ h.1 h.2
  · exact absurd h (by simp)
def Z4 : Handle := runS [⟨8, dat (sp0 true (.b true))⟩, ⟨9, dat (spD1 35 rC fun r => .tuple [.s (rtS r), .i .i64 (rtE r)])⟩, ⟨10, dat (spD1 35 rC fun r => .tuple [.s (rtS r), .i .i64 (rtE r)])⟩, ⟨11, dat (sp1 short fun p => .tuple [.d 35 (rpD p), .i .i64 (rpE p)])⟩, ⟨12, dat (sp1 short fun p => .tuple [.d 35 (rpD p), .i .i64 (rpE p)])⟩, ⟨13, dat (spLL 35 35 srC fun a b => .b (srV a b))⟩]
theorem z4 (lab : Lab) (rp : List UInt8) (rc : Cp) (rt : List D) (rd : Int) (ro : Int) (rm : Bool) (s : List UInt8) : evF (ΓN mx) Z4 lab 4 [.d 35 (D.agg [D.str rp, D.slice rc rt, D.int .i64 rd, D.int .i64 ro, D.bool rm]), .s s] [] =
  bif rC (D.agg [D.str rp, D.slice rc rt, D.int .i64 rd, D.int .i64 ro, D.bool rm]) then (bif rC (D.agg [D.str rp, D.slice rc rt, D.int .i64 rd, D.int .i64 ro, D.bool rm]) then (bif short s then (dAgg ((rpD s)) fun y1 => lCons y1 fun a2 r3 => dStr a2 fun s4 => lCons r3 fun a5 r6 => dSlice a5 fun c7 l8 => lCons r6 fun a9 r10 => dInt .i64 a9 fun n11 => lCons r10 fun a12 r13 => dInt .i64 a12 fun n14 => lCons r13 fun a15 r16 => dBool a15 fun b17 => lNil r16 (bif short s then (dAgg ((rpD s)) fun y18 => lCons y18 fun a19 r20 => dStr a19 fun s21 => lCons r20 fun a22 r23 => dSlice a22 fun c24 l25 => lCons r23 fun a26 r27 => dInt .i64 a26 fun n28 => lCons r27 fun a29 r30 => dInt .i64 a29 fun n31 => lCons r30 fun a32 r33 => dBool a32 fun b34 => lNil r33 (bif (rtS (D.agg [D.str rp, D.slice rc rt, D.int .i64 rd, D.int .i64 ro, D.bool rm])) == (rtS (D.agg [D.str rp, D.slice rc rt, D.int .i64 rd, D.int .i64 ro, D.bool rm])) then (bif (rtE (D.agg [D.str rp, D.slice rc rt, D.int .i64 rd, D.int .i64 ro, D.bool rm])) == (rtE (D.agg [D.str rp, D.slice rc rt, D.int .i64 rd, D.int .i64 ro, D.bool rm])) then (bif (rpE s) == (rpE s) then (bif srC ([D.agg [D.str s4, D.slice c7 l8, D.int .i64 n11, D.int .i64 n14, D.bool b17]]) ([D.agg [D.str s21, D.slice c24 l25, D.int .i64 n28, D.int .i64 n31, D.bool b34]]) then (some (.b (srV ([D.agg [D.str s4, D.slice c7 l8, D.int .i64 n11, D.int .i64 n14, D.bool b17]]) ([D.agg [D.str s21, D.slice c24 l25, D.int .i64 n28, D.int .i64 n31, D.bool b34]])), [])) else none) else (some (.b false, []))) else (some (.b false, []))) else (some (.b false, [])))) else none)) else none) else none) else none := by kernel_rfl
theorem zh4_ok : CallsOK (ΓN mx) Z4 := specs_ok (.cons (sp0_ok k8N) (.cons (spD1_ok k9) (.cons (spD1_ok k10) (.cons (sp1_ok k11) (.cons (sp1_ok k12) (.cons (spLL_ok (fun a b h => (k13L a b h).bigN (by kernel_rfl))) .nil))))))
def Z5 : Handle := runS [⟨8, dat (sp0 true (.b true))⟩, ⟨9, dat (spD1 35 rC fun r => .tuple [.s (rtS r), .i .i64 (rtE r)])⟩, ⟨11, dat (sp1 short fun p => .tuple [.d 35 (rpD p), .i .i64 (rpE p)])⟩, ⟨13, dat (spLL 35 35 srC fun a b => .b (srV a b))⟩]
theorem z5 (lab : Lab) (rp : List UInt8) (rc : Cp) (rt : List D) (rd : Int) (ro : Int) (rm : Bool) (s : List UInt8) : evF (ΓN mx) Z5 lab 5 [.d 35 (D.agg [D.str rp, D.slice rc rt, D.int .i64 rd, D.int .i64 ro, D.bool rm]), .s s] [] =
  bif rC (D.agg [D.str rp, D.slice rc rt, D.int .i64 rd, D.int .i64 ro, D.bool rm]) then (bif short (rtS (D.agg [D.str rp, D.slice rc rt, D.int .i64 rd, D.int .i64 ro, D.bool rm])) then (dAgg ((rpD (rtS (D.agg [D.str rp, D.slice rc rt, D.int .i64 rd, D.int .i64 ro, D.bool rm])))) fun y1 => lCons y1 fun a2 r3 => dStr a2 fun s4 => lCons r3 fun a5 r6 => dSlice a5 fun c7 l8 => lCons r6 fun a9 r10 => dInt .i64 a9 fun n11 => lCons r10 fun a12 r13 => dInt .i64 a12 fun n14 => lCons r13 fun a15 r16 => dBool a15 fun b17 => lNil r16 (bif short s then (dAgg ((rpD s)) fun y18 => lCons y18 fun a19 r20 => dStr a19 fun s21 => lCons r20 fun a22 r23 => dSlice a22 fun c24 l25 => lCons r23 fun a26 r27 => dInt .i64 a26 fun n28 => lCons r27 fun a29 r30 => dInt .i64 a29 fun n31 => lCons r30 fun a32 r33 => dBool a32 fun b34 => lNil r33 (bif rC (D.agg [D.str s21, D.slice c24 l25, D.int .i64 n28, D.int .i64 n31, D.bool b34]) then (bif (rtE (D.agg [D.str rp, D.slice rc rt, D.int .i64 rd, D.int .i64 ro, D.bool rm])) != 0 then (bif (rpE s) != 0 then (some (.b true, [])) else (bif (rtE (D.agg [D.str s21, D.slice c24 l25, D.int .i64 n28, D.int .i64 n31, D.bool b34])) == 0 then (some (.b ((rtS (D.agg [D.str s21, D.slice c24 l25, D.int .i64 n28, D.int .i64 n31, D.bool b34])) == s), [])) else (some (.b false, [])))) else (bif (rpE (rtS (D.agg [D.str rp, D.slice rc rt, D.int .i64 rd, D.int .i64 ro, D.bool rm]))) == 0 then (bif srC ([D.agg [D.str s4, D.slice c7 l8, D.int .i64 n11, D.int .i64 n14, D.bool b17]]) ([D.agg [D.str rp, D.slice rc rt, D.int .i64 rd, D.int .i64 ro, D.bool rm]]) then (bif srV ([D.agg [D.str s4, D.slice c7 l8, D.int .i64 n11, D.int .i64 n14, D.bool b17]]) ([D.agg [D.str rp, D.slice rc rt, D.int .i64 rd, D.int .i64 ro, D.bool rm]]) then (bif (rpE s) != 0 then (some (.b true, [])) else (bif (rtE (D.agg [D.str s21, D.slice c24 l25, D.int .i64 n28, D.int .i64 n31, D.bool b34])) == 0 then (some (.b ((rtS (D.agg [D.str s21, D.slice c24 l25, D.int .i64 n28, D.int .i64 n31, D.bool b34])) == s), [])) else (some (.b false, [])))) else (some (.b false, []))) else none) else (some (.b false, [])))) else none)) else none)) else none) else none := by kernel_rfl
theorem zh5_ok : CallsOK (ΓN mx) Z5 := specs_ok (.cons (sp0_ok k8N) (.cons (spD1_ok k9) (.cons (sp1_ok k11) (.cons (spLL_ok (fun a b h => (k13L a b h).bigN (by kernel_rfl))) .nil))))
theorem sameR_self (r : D) : sameR r r = true := by
  unfold sameR
  rw [beq_self_eq_true, sameT_self, beq_self_eq_true, beq_self_eq_true, beq_self_eq_true]; rfl
theorem law4 (r : D) (s : List UInt8) (hr : rC r = true) (hs : short s = true) : RetX (ΓN mx) 4 [.d 35 r, .s s] [] (.b true) [] := by
  obtain ⟨p', c', t', a', b', m', hq, hp', ht'⟩ := rC_ex (rC_rp hs)
  obtain ⟨p, c, t, a, b, m, rfl, hp, ht⟩ := rC_ex hr
  refine ret_goes (Γ := ΓN mx) hPN hZN zh4_ok (by kernel_rfl) ⟨0, ?_⟩
  have hq2 := rC_rp hs
  rw [z4, hr, hs, hq]
  rw [hq] at hq2
  show (bif _ then (bif _ then (bif _ then (bif srC [D.agg [D.str p', D.slice c' t', D.int .i64 a', D.int .i64 b', D.bool m']] [D.agg [D.str p', D.slice c' t', D.int .i64 a', D.int .i64 b', D.bool m']] then some (AV.b (srV [D.agg [D.str p', D.slice c' t', D.int .i64 a', D.int .i64 b', D.bool m']] [D.agg [D.str p', D.slice c' t', D.int .i64 a', D.int .i64 b', D.bool m']]), _) else none) else _) else _) else _) = _
  rw [beq_self_eq_true, beq_self_eq_true, beq_self_eq_true, show srC [D.agg [D.str p', D.slice c' t', D.int .i64 a', D.int .i64 b', D.bool m']] [D.agg [D.str p', D.slice c' t', D.int .i64 a', D.int .i64 b', D.bool m']] = true from srC1 hq2 hq2]
  show some (AV.b (sameR _ _), _) = _
  rw [sameR_self]
theorem law5 (r : D) (s : List UInt8) (hr : rC r = true) (hs : short s = true) : RetX (ΓN mx) 5 [.d 35 r, .s s] [] (.b true) [] := by
  have hs1 := short_rt r hr
  have hq3 := rC_rp hs1
  obtain ⟨p2, c2, t2, a2, b2, m2, hq1, _, _⟩ := rC_ex hq3
  have hq2 := rC_rp hs
  obtain ⟨p', c', t', a', b', m', hq, hp', ht'⟩ := rC_ex hq2
  have hback : rpE s = 0 → rtE (rpD s) = 0 ∧ rtS (rpD s) = s := fun h => by
    obtain ⟨g1, g2⟩ := rule_written h
    exact ⟨by unfold rtE; rw [g1]; rfl, g2⟩
  obtain ⟨p, c, t, a, b, m, rfl, hp, ht⟩ := rC_ex hr
  have hread : rtE (D.agg [D.str p, D.slice c t, D.int .i64 a, D.int .i64 b, D.bool m]) = 0 → rpE (rtS (D.agg [D.str p, D.slice c t, D.int .i64 a, D.int .i64 b, D.bool m])) = 0 ∧ rpD (rtS (D.agg [D.str p, D.slice c t, D.int .i64 a, D.int .i64 b, D.bool m])) = D.agg [D.str p, D.slice .any t, D.int .i64 a, D.int .i64 b, D.bool m] := fun h => by
    have hg : rGood (ruD p c t a b m) = true := by
      cases hg : rGood (ruD p c t a b m) with
      | true => rfl
      | false => unfold rtE at h; rw [show rGood (D.agg [D.str p, D.slice c t, D.int .i64 a, D.int .i64 b, D.bool m]) = false from hg] at h; exact absurd h (by decide)
    have hall : t.all isT = true := List.all_eq_true.2 fun x hx => by
      have := List.all_eq_true.1 (Bool.and_eq_true_iff.1 ht).2 x hx
      exact (Bool.and_eq_true_iff.1 this).1
    have := rule_read hall hg
    unfold rpE rpD
    rw [show rtS (D.agg [D.str p, D.slice c t, D.int .i64 a, D.int .i64 b, D.bool m]) = rtS (ruD p c t a b m) from rfl, this]
    exact ⟨rfl, rfl⟩
  refine ret_goes (Γ := ΓN mx) hPN hZN zh5_ok (by kernel_rfl) ⟨0, ?_⟩
  rw [z5, hr, hs, hs1, hq1, hq]
  rw [hq] at hback hq2
  rw [hq1] at hread hq3
  simp only [cond_true, dAgg, lCons, dStr, dSlice, dInt, dBool, lNil, kEq, hq2]
  have hA : (bif rpE s != 0 then some (AV.b true, ([] : Objs)) else (bif rtE (D.agg [D.str p', D.slice c' t', D.int .i64 a', D.int .i64 b', D.bool m']) == 0 then some (AV.b (rtS (D.agg [D.str p', D.slice c' t', D.int .i64 a', D.int .i64 b', D.bool m']) == s), []) else some (AV.b false, []))) = some (AV.b true, []) := by
    cases he : rpE s == 0 with
    | false => rw [show (rpE s != 0) = !(rpE s == 0) from rfl, he]; rfl
    | true =>
      obtain ⟨g1, g2⟩ := hback (eq_of_beq he)
      rw [show (rpE s != 0) = !(rpE s == 0) from rfl, he, g1, g2, beq_self_eq_true, beq_self_eq_true]; rfl
  rw [hA]
  cases he : rtE (D.agg [D.str p, D.slice c t, D.int .i64 a, D.int .i64 b, D.bool m]) == 0 with
  | false => rw [show (rtE (D.agg [D.str p, D.slice c t, D.int .i64 a, D.int .i64 b, D.bool m]) != 0) = !(rtE (D.agg [D.str p, D.slice c t, D.int .i64 a, D.int .i64 b, D.bool m]) == 0) from rfl, he]; rfl
  | true =>
    obtain ⟨g1, g2⟩ := hread (eq_of_beq he)
    rw [show (rtE (D.agg [D.str p, D.slice c t, D.int .i64 a, D.int .i64 b, D.bool m]) != 0) = !(rtE (D.agg [D.str p, D.slice c t, D.int .i64 a, D.int .i64 b, D.bool m]) == 0) from rfl, he, g1, g2]
    have hc : srC [D.agg [D.str p, D.slice .any t, D.int .i64 a, D.int .i64 b, D.bool m]] [D.agg [D.str p, D.slice c t, D.int .i64 a, D.int .i64 b, D.bool m]] = true := by
      show (rC (D.agg [D.str p, D.slice .any t, D.int .i64 a, D.int .i64 b, D.bool m]) && rC (D.agg [D.str p, D.slice c t, D.int .i64 a, D.int .i64 b, D.bool m])) = true
      rw [hr, show rC (D.agg [D.str p, D.slice .any t, D.int .i64 a, D.int .i64 b, D.bool m]) = true from hr]; rfl
    have hv : srV [D.agg [D.str p, D.slice .any t, D.int .i64 a, D.int .i64 b, D.bool m]] [D.agg [D.str p, D.slice c t, D.int .i64 a, D.int .i64 b, D.bool m]] = true := sameR_self (D.agg [D.str p, D.slice c t, D.int .i64 a, D.int .i64 b, D.bool m])
    rw [hc, hv]; rfl
end Go.Proofs.YtjbemleloffafaaGreatDoor.V
