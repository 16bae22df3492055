/- strings.Split at a blank, strings.Join, as the library's contracts have them. The layings are written by program. -/
import Derived.Test.YtjbemleloffafaaDoorGrA
import Derived.Shelf.Strings.Split
import Derived.Shelf.Strings.OnBuilder
namespace Go.Proofs
set_option maxRecDepth 100000
def Lg.lays146_ren : Go.Shelf.Ren := ⟨fun | 138 => 102 | 143 => 103 | 146 => 46 | 195 => 131 | 197 => 132 | 217 => 118 | 218 => 133 | 219 => 117 | 221 => 76 | 224 => 141 | 225 => 140 | 260 => 153 | 266 => 143 | 267 => 142 | 268 => 101 | 314 => 155 | n => n, fun | 0 => 0 | 3 => 3 | 4 => 4 | 5 => 5 | 9 => 9 | 21 => 21 | 31 => 70 | 46 => 121 | 51 => 157 | 105 => 168 | 119 => 177 | 138 => 179 | 139 => 180 | 146 => 190 | n => n, fun | 1 => 3 | 3 => 1 | 4 => 2 | n => n⟩
theorem Lg.lays146 : Go.Proofs.Lays.n146 Tryd.prog Lg.lays146_ren :=
  { mixed := by kernel_rfl, f138 := Tryd.func102.trans (congrArg some (by kernel_rfl)), f143 := Tryd.func103.trans (congrArg some (by kernel_rfl)), f146 := Tryd.func46.trans (congrArg some (by kernel_rfl)), f195 := Tryd.func131.trans (congrArg some (by kernel_rfl)), f197 := Tryd.func132.trans (congrArg some (by kernel_rfl)), f217 := Tryd.func118.trans (congrArg some (by kernel_rfl)), f218 := Tryd.func133.trans (congrArg some (by kernel_rfl)), f219 := Tryd.func117.trans (congrArg some (by kernel_rfl)), f221 := Tryd.func76.trans (congrArg some (by kernel_rfl)), f224 := Tryd.func141.trans (congrArg some (by kernel_rfl)), f225 := Tryd.func140.trans (congrArg some (by kernel_rfl)), f260 := Tryd.func153.trans (congrArg some (by kernel_rfl)), f266 := Tryd.func143.trans (congrArg some (by kernel_rfl)), f267 := Tryd.func142.trans (congrArg some (by kernel_rfl)), f268 := Tryd.func101.trans (congrArg some (by kernel_rfl)), f314 := Tryd.func155.trans (congrArg some (by kernel_rfl)), t0 := Tryd.underlying0, a0 := Tryd.isAgg0, z0 := Tryd.sizeOf0, v0 := Tryd.zeroValue0, t3 := Tryd.underlying3, a3 := Tryd.isAgg3, z3 := Tryd.sizeOf3, v3 := Tryd.zeroValue3, t4 := Tryd.underlying4, a4 := Tryd.isAgg4, z4 := Tryd.sizeOf4, v4 := Tryd.zeroValue4, t5 := Tryd.underlying5, a5 := Tryd.isAgg5, z5 := Tryd.sizeOf5, v5 := Tryd.zeroValue5, t9 := Tryd.underlying9, a9 := Tryd.isAgg9, z9 := Tryd.sizeOf9, v9 := Tryd.zeroValue9, t21 := Tryd.underlying21, a21 := Tryd.isAgg21, z21 := Tryd.sizeOf21, v21 := Tryd.zeroValue21, t31 := Tryd.underlying70, a31 := Tryd.isAgg70, z31 := Tryd.sizeOf70, v31 := Tryd.zeroValue70, t46 := Tryd.underlying121, a46 := Tryd.isAgg121, z46 := Tryd.sizeOf121, v46 := Tryd.zeroValue121, t51 := Tryd.underlying157, a51 := Tryd.isAgg157, z51 := Tryd.sizeOf157, v51 := Tryd.zeroValue157, t105 := Tryd.underlying168, a105 := Tryd.isAgg168, z105 := Tryd.sizeOf168, v105 := Tryd.zeroValue168, t119 := Tryd.underlying177, a119 := Tryd.isAgg177, z119 := Tryd.sizeOf177, t138 := Tryd.underlying179, a138 := Tryd.isAgg179, z138 := Tryd.sizeOf179, v138 := Tryd.zeroValue179, t139 := Tryd.underlying180, a139 := Tryd.isAgg180, z139 := Tryd.sizeOf180, v139 := Tryd.zeroValue180, t146 := Tryd.underlying190, a146 := Tryd.isAgg190, z146 := Tryd.sizeOf190, v146 := Tryd.zeroValue190, g1 := by kernel_rfl, g3 := by kernel_rfl, g4 := by kernel_rfl }
def Lg.lays156_ren : Go.Shelf.Ren := ⟨fun | 156 => 43 | 165 => 73 | 166 => 74 | 169 => 75 | 240 => 99 | 241 => 100 | 276 => 129 | 277 => 130 | n => n, fun | 0 => 0 | 3 => 3 | 4 => 4 | 9 => 9 | 20 => 20 | 31 => 70 | 37 => 107 | 70 => 106 | 72 => 109 | 75 => 112 | 76 => 113 | 127 => 147 | 164 => 164 | 80 => 115 | n => n, fun | n => n⟩
theorem Lg.lays156 : Go.Proofs.Lays.n156 Tryd.prog Lg.lays156_ren :=
  { mixed := by kernel_rfl, f156 := Tryd.func43.trans (congrArg some (by kernel_rfl)), f165 := Tryd.func73.trans (congrArg some (by kernel_rfl)), f166 := Tryd.func74.trans (congrArg some (by kernel_rfl)), f169 := Tryd.func75.trans (congrArg some (by kernel_rfl)), f240 := Tryd.func99.trans (congrArg some (by kernel_rfl)), f241 := Tryd.func100.trans (congrArg some (by kernel_rfl)), f276 := Tryd.func129.trans (congrArg some (by kernel_rfl)), f277 := Tryd.func130.trans (congrArg some (by kernel_rfl)), t0 := Tryd.underlying0, a0 := Tryd.isAgg0, z0 := Tryd.sizeOf0, v0 := Tryd.zeroValue0, t3 := Tryd.underlying3, a3 := Tryd.isAgg3, z3 := Tryd.sizeOf3, v3 := Tryd.zeroValue3, t4 := Tryd.underlying4, a4 := Tryd.isAgg4, z4 := Tryd.sizeOf4, v4 := Tryd.zeroValue4, t9 := Tryd.underlying9, a9 := Tryd.isAgg9, z9 := Tryd.sizeOf9, v9 := Tryd.zeroValue9, t20 := Tryd.underlying20, a20 := Tryd.isAgg20, z20 := Tryd.sizeOf20, v20 := Tryd.zeroValue20, t31 := Tryd.underlying70, a31 := Tryd.isAgg70, z31 := Tryd.sizeOf70, v31 := Tryd.zeroValue70, t37 := Tryd.underlying107, a37 := Tryd.isAgg107, z37 := Tryd.sizeOf107, v37 := Tryd.zeroValue107, t70 := Tryd.underlying106, a70 := Tryd.isAgg106, z70 := Tryd.sizeOf106, v70 := Tryd.zeroValue106, t72 := Tryd.underlying109, a72 := Tryd.isAgg109, z72 := Tryd.sizeOf109, v72 := Tryd.zeroValue109, t75 := Tryd.underlying112, a75 := Tryd.isAgg112, z75 := Tryd.sizeOf112, v75 := Tryd.zeroValue112, t76 := Tryd.underlying113, a76 := Tryd.isAgg113, z76 := Tryd.sizeOf113, v76 := Tryd.zeroValue113, t127 := Tryd.underlying147, a127 := Tryd.isAgg147, z127 := Tryd.sizeOf147, v127 := Tryd.zeroValue147, t164 := Tryd.underlying164, a164 := Tryd.isAgg164, z164 := Tryd.sizeOf164, v164 := Tryd.zeroValue164 }

theorem Lg.extra : Builder.Extra Tryd.prog Lg.lays156_ren := { sizeBuilder := by kernel_rfl, liesBuilder := by kernel_rfl, t5 := Tryd.underlying5, a5 := Tryd.isAgg5, z5 := Tryd.sizeOf5, v5 := Tryd.zeroValue5, infoByte := by kernel_rfl, cellsByte := by kernel_rfl, sizeByte := by kernel_rfl, neB5 := by decide }
end Go.Proofs
namespace Go.Proofs.YtjbemleloffafaaDoor.V
open Go Go.RowKit
set_option maxRecDepth 100000
set_option linter.unusedVariables false
variable {mx : Int}
theorem max_cell {w : World} {S : Addr → Prop} (h : GlobOK (Γ mx) w S) : w.cell? ⟨3, 0, none⟩ = some (.int .i64 mx) := by
  obtain ⟨vs, h1, h2, _⟩ := h.data 3 3 (.int .i64 mx) rfl
  exact glob_int h1 h2
def s32 (l : List UInt8) : Bool := decide (l.length < 4294967281)
theorem ba_eq {u : ByteArray} {l : List UInt8} (h : u.data.toList = l) : u = ⟨l.toArray⟩ := by subst h; simp
theorem sep_ne (c : UInt8) : 1 ≤ (⟨#[c]⟩ : ByteArray).size := Nat.le_refl 1
/-- what lies between signs -/
def splitC (c : UInt8) (s : List UInt8) : List D := (Lib.split s [c]).map D.str
theorem split_ret (c : UInt8) (s : List UInt8) (h : s32 s = true) : RetX (Γ mx) 46 [.s s, .s [c]] [] (.sl 9 .ex (splitC c s)) [] := by
  refine ret_shelfN (by kernel_rfl) fun w S vals hS hG ha => ?_
  simp only [RepAs, RepA] at ha
  obtain ⟨v, _, rfl, ⟨s, rfl, rfl⟩, v', _, rfl, ⟨u, hu, rfl⟩, rfl⟩ := ha
  obtain rfl := ba_eq hu
  refine (Any.strings_Split Lg.lays146 (by kernel_rfl) s ⟨#[c]⟩ mx w (by simpa [s32] using h) (max_cell hG) (sep_ne c)).mono fun e w' ⟨he, hw⟩ => ?_
  have hl := Lib.splitB_all ⟨#[c]⟩ (sep_ne c) 0 _ s rfl
  have hd := Lib.splitB_data ⟨#[c]⟩ 0 (Lib.countB s ⟨#[c]⟩) s
  have hx : splitC c s.data.toList = (Lib.splitB ⟨#[c]⟩ 0 (Lib.countB s ⟨#[c]⟩) s).map fun b => D.str b.data.toList := by
    have : Lib.split s.data.toList [c] = (Lib.splitB ⟨#[c]⟩ 0 (Lib.countB s ⟨#[c]⟩) s).map (·.data.toList) := hd.symm
    unfold splitC
    rw [this, List.map_map]
    rfl
  subst hw
  refine ⟨_, he, (Below.refl _ w).alloc (Nat.le_refl _) _, fun a => S a ∨ a.block = w.heap.size, fun _ h => .inl h, fun a h => ?_, ?_⟩
  · rcases h with h | h
    · exact .inl h
    · exact .inr ⟨Nat.le_of_eq h.symm, by rw [h, und_len]; exact Nat.lt_succ_self _⟩
  · rw [hx]
    simp only [RepA]
    refine ⟨some ⟨w.heap.size, 0, none⟩, Lib.countB s ⟨#[c]⟩ + 1, by rw [List.length_map, hl], ⟨rfl, by rw [List.length_map, hl]⟩, .inr ⟨_, _, rfl, row_strs (by kernel_rfl) (by kernel_rfl) _ _ _ fun j v hj => ⟨?_, .inr rfl⟩⟩⟩
    rw [Nat.zero_add, World.cell?_alloc_at _ _ _ _ rfl]
    simpa using hj
/-- the texts of a row of texts -/
def txt : D → List UInt8
  | .str l => l
  | _ => []
def joinV (l : List D) (sep : List UInt8) : List UInt8 := Lib.join (l.map txt) sep
def isStr : D → Bool
  | .str _ => true
  | _ => false
def joinC (l : List D) (sep : List UInt8) : Bool := l.all isStr && decide (l.length ≤ 1099511627776) && decide ((joinV l sep).length ≤ 140737488355328)
theorem row_texts {P : Program} {w : World} {S : Addr → Prop} {e : TypeId} (h1 : P.cellsOf e = 1) : ∀ (l : List D) (b o : Nat), l.all isStr = true → RepRow P w S l e b o →
    ∃ xs : List ByteArray, xs.length = l.length ∧ xs.map (·.data.toList) = l.map txt ∧ ∀ (j : Nat) x, xs[j]? = some x → w.cell? ⟨b, o + j, none⟩ = some (.string x) ∧ S ⟨b, o + j, none⟩
  | [], b, o, _, _ => ⟨[], rfl, rfl, fun j x h => by simp at h⟩
  | d :: l, b, o, ha, h => by
    simp only [RepRow] at h
    obtain ⟨vs, hc, hr, h⟩ := h
    have ha : isStr d = true ∧ l.all isStr = true := by simpa using ha
    obtain ⟨xs, g1, g2, g3⟩ := row_texts h1 l b _ ha.2 h
    cases d with
    | str q =>
      simp only [RepT] at hr
      obtain ⟨_, s, hs, rfl⟩ := hr
      refine ⟨s :: xs, by simp [g1], by simp [g2, hs, txt], fun j x hj => ?_⟩
      cases j with
      | zero => cases hj; exact hc 0 _ rfl
      | succ j =>
        have := g3 j x (by simpa using hj)
        rw [h1, show o + 1 + j = o + (j + 1) by omega] at this
        exact this
    | int _ _ => exact absurd ha.1 (by simp [isStr])
    | bool _ => exact absurd ha.1 (by simp [isStr])
    | slice _ _ => exact absurd ha.1 (by simp [isStr])
    | agg _ => exact absurd ha.1 (by simp [isStr])
theorem capC {c : Cp} {a : Option Addr} {n cap : Nat} (h : CapOK c a n cap) : n ≤ cap := by
  cases c <;> simp only [CapOK] at h <;> omega
theorem join_ret (c : Cp) (l : List D) (sep : List UInt8) (h : joinC l sep = true) : RetX (Γ mx) 43 [.sl 9 c l, .s sep] [] (.s (joinV l sep)) [] := by
  refine ret_shelfN (by kernel_rfl) fun w S vals hS hG ha => ?_
  simp only [RepAs, RepA] at ha
  obtain ⟨v, _, rfl, ⟨a, cap, rfl, hcap, hrow⟩, v', _, rfl, ⟨u, rfl, rfl⟩, rfl⟩ := ha
  simp only [joinC, Bool.and_eq_true, decide_eq_true_eq] at h
  obtain ⟨⟨h1, h2⟩, h3⟩ := h
  have hcap := capC hcap
  rcases hrow with rfl | ⟨b, o, rfl, hrow⟩
  · refine (Any.strings_Join_none Lg.lays156 Lg.extra a cap u w).mono fun e w' ⟨he, hw⟩ => ⟨_, he, by rw [hw]; exact Below.refl _ _, S, fun _ h => h, fun _ h => .inl h, ?_⟩
    simp only [RepA]
    exact ⟨_, list_eta _, rfl⟩
  · obtain ⟨xs, g1, g2, g3⟩ := row_texts (P := (Γ mx).P) (by kernel_rfl) l b o h1 hrow
    cases l with
    | nil =>
      refine (Any.strings_Join_none Lg.lays156 Lg.extra _ cap u w).mono fun e w' ⟨he, hw⟩ => ⟨_, he, by rw [hw]; exact Below.refl _ _, S, fun _ h => h, fun _ h => .inl h, ?_⟩
      simp only [RepA]
      exact ⟨_, list_eta _, rfl⟩
    | cons d r =>
      have hb : b < w.heap.size := by
        cases xs with
        | nil => simp at g1
        | cons x xs => exact hS _ (g3 0 x rfl).2
      have e : joinV (d :: r) u.data.toList = Lib.join (xs.map (·.data.toList)) u.data.toList := by unfold joinV; rw [g2]
      have hj := Any.strings_Join Lg.lays156 Lg.extra b o cap xs u w (fun j x hj => (g3 j x hj).1) hb (by omega) (by omega) (by rw [← e]; exact h3)
      rw [g1] at hj
      refine hj.mono fun e' w' ⟨he, hw⟩ => ⟨_, he, hw, S, fun _ h => h, fun _ h => .inl h, ?_⟩
      simp only [RepA]
      exact ⟨_, by rw [list_eta, e], rfl⟩
end Go.Proofs.YtjbemleloffafaaDoor.V
