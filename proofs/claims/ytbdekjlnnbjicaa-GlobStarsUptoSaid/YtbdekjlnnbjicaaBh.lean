/- FrW: texts of this claim, put together in build order by program. -/
import Derived.Test.YtbdekjlnnbjicaaBg
import Derived.Defers
/- Functions: loops by so many rounds; what a call comes to. -/
namespace Go.Proofs.Ytbdekjlnnbjicaa.V
open Go
set_option linter.unusedVariables false
set_option linter.unusedSimpArgs false

/-- so many rounds, at all labels together -/
def runL (Γ : Ctx) (call : Handle) (f : FuncId) (res : List ResultVar) : Nat → Lab
  | 0 => fun _ _ => none
  | n + 1 => fun todo st => ev Γ call (runL Γ call f res n) f res steps (enterL todo) st
/-- a function, called with data -/
def fnV (Γ : Ctx) (call : Handle) (n : Nat) (g : FuncId) (args : List AV) (obs : Objs) : Option (AV × Objs) := match Γ.P.funcs[g]? with
  | some fn => match fn.body with
    | some c => ev Γ call (runL Γ call g fn.results.toList n) g fn.results.toList steps [.c c] ⟨params args, obs⟩
    | none => none
  | none => none

section
variable {Γ : Ctx} {w0 : World} {S0 : Addr → Prop} {X : XB} {w w' : World} {S S' : Addr → Prop} {σ σ' : Loc} {ob ob' : Objs} {R : Type}

theorem runL_ok (hP : tabOk Γ.P = true) (hZ : zeroOk Γ.P = true) {call : Handle} (hc : CallsOK Γ call) {f : FuncId} {fn : Func} (hX : X.roots.length = rootsOf Γ.roots f) (hf : Γ.P.funcs[f]? = some fn) :
    ∀ n, LabsOK Γ w0 S0 X fn (runL Γ call f fn.results.toList n)
  | 0 => fun todo st res h => by simp [runL] at h
  | n + 1 => fun todo st res h => by
    simp only [runL] at h
    exact ev_ok hP hZ hc hX hf (runL_ok hP hZ hc hX hf n) _ _ _ _ h

theorem get_params : ∀ (args : List AV) (k t : Nat), get ((args.zipIdx k).map fun p => (p.2, p.1)) t = if k ≤ t then args.getD (t - k) .undef else .undef
  | [], k, t => by simp [get]
  | a :: r, k, t => by
    simp only [List.zipIdx_cons, List.map_cons, get, get_params r (k + 1) t]
    cases hb : Nat.beq k t with
    | true => obtain rfl := beq_id hb; simp
    | false =>
      have hne : k ≠ t := fun e => by subst e; simp at hb
      simp only [cond_false]
      by_cases h1 : k + 1 ≤ t
      · rw [if_pos h1, if_pos (by omega), show t - k = (t - (k + 1)) + 1 by omega]; simp
      · rw [if_neg h1, if_neg (by omega)]
theorem RepAs.len {P : Program} : ∀ {l : List AV} {vs : List Value}, RepAs P w S σ ob l vs → l.length = vs.length
  | [], vs, h => by simp only [RepAs] at h; subst h; rfl
  | a :: r, vs, h => by
    simp only [RepAs] at h
    obtain ⟨v, vs', rfl, _, h3⟩ := h
    simp [RepAs.len h3]
theorem start_ok {fn : Func} {args : List AV} {obs : Objs} {vals : List Value} (hM : MemOK Γ w S X w S σ obs) (ha : RepAs Γ.P w S σ obs args vals) :
    StOK Γ w S ⟨X.roots, X.own, []⟩ fn.ntmps ⟨params args, obs⟩ { tmps := vals.toArray ++ Array.replicate (fn.ntmps - vals.toArray.size) undef, defers := [] } w S σ := by
  refine ⟨hM.dfs, fun t => ?_, by simp; omega, rfl⟩
  simp only [params]
  rw [get_params]
  simp only [Nat.zero_le, if_true, Nat.sub_zero]
  have hl := RepAs.len ha
  rcases Nat.lt_or_ge t args.length with ht | ht
  · obtain ⟨v, hv, hr⟩ := ha.get (i := t) (a := args[t]) (List.getElem?_eq_getElem ht)
    rw [List.getD_eq_getElem?_getD, List.getElem?_eq_getElem ht]
    have : (vals.toArray ++ Array.replicate (fn.ntmps - vals.toArray.size) undef).getD t undef = v := by
      rw [Array.getD_eq_getD_getElem?, Array.getElem?_append_left (by simp; omega)]
      simp [hv]
    rw [this]
    exact hr
  · rw [List.getD_eq_getElem?_getD, List.getElem?_eq_none ht]
    simp only [Option.getD_none, RepA]

/-- the same, of a call that was put off -/
def RetXD (Γ : Ctx) (g : FuncId) (args : List AV) (obs : Objs) (r : AV) (obs' : Objs) : Prop :=
  ∀ (w : World) (S : Addr → Prop) (σ : Loc) (X : XB) (vals : List Value), X.roots.length = rootsOf Γ.roots g → MemOK Γ w S X w S σ obs → RepAs Γ.P w S σ obs args vals → ∀ u : FrameMode,
    CallsD Γ.P g vals.toArray u w fun e u' w' => u' = u ∧ ∃ v, e = .returned v ∧ ∃ S' σ', MemOK Γ w S X w' S' σ' obs' ∧ Keeps w S w' S' ∧ RepA Γ.P w' S' σ' obs' r v
/-- a function's contract, from its text -/
theorem ret_good {g : FuncId} {fn : Func} {c : Code} {args : List AV} {obs obs' : Objs} {r : AV} (hfn : Γ.P.funcs[g]? = some fn) (hb : fn.body = some c) (hn : (fn.name == "runtime.NumGoroutine") = false)
    (h : ∀ (w : World) (S : Addr → Prop) (X : XB), X.roots.length = rootsOf Γ.roots g → GoodAt Γ w S X fn [.c c] ⟨params args, obs⟩ (r, obs')) : RetX Γ g args obs r obs' := by
  intro w S σ X vals hX hM0 ha
  have hst := start_ok (fn := fn) hM0 ha
  have hrun : (callFunc g vals.toArray).run Γ.P w = .ok (.enter g vals.toArray) w := by
    have hne : ¬ fn.name = "runtime.NumGoroutine" := by simpa using hn
    simp [callFunc, hfn, hb, hne]
  rw [hrun]
  show Calls Γ.P g vals.toArray w _
  intro cs
  let b : Frame := { (default : Frame) with fn := g, kind := .normal }
  have henter : Frame.enter Γ.P g vals.toArray .normal = b.at { tmps := vals.toArray ++ Array.replicate (fn.ntmps - vals.toArray.size) undef, defers := [] } (items [.c c]) := by
    simp [Frame.enter, Frame.at, hfn, hb, b, items, AI.item]
  obtain ⟨a', w', todo, S', v, hs, hd, hr, σ', hM, hv⟩ := h w S ⟨X.roots, X.own, []⟩ hX _ w S σ hst b cs
  rw [← henter] at hs
  exact ⟨.returned v, w', _, ⟨v, rfl, S', σ', hM.undfs, hM.undfs.kept, hv⟩, hs, rfl, rfl, hd, rfl, fn, hfn, hr⟩
theorem ret_goodD {g : FuncId} {fn : Func} {c : Code} {args : List AV} {obs obs' : Objs} {r : AV} (hfn : Γ.P.funcs[g]? = some fn) (hb : fn.body = some c)
    (h : ∀ (w : World) (S : Addr → Prop) (X : XB), X.roots.length = rootsOf Γ.roots g → GoodAt Γ w S X fn [.c c] ⟨params args, obs⟩ (r, obs')) : RetXD Γ g args obs r obs' := by
  intro w S σ X vals hX hM0 ha u c₀ cs hu
  have hst := start_ok (fn := fn) hM0 ha
  let b : Frame := { (default : Frame) with fn := g, kind := .deferred }
  have henter : Frame.enter Γ.P g vals.toArray .deferred = b.at { tmps := vals.toArray ++ Array.replicate (fn.ntmps - vals.toArray.size) undef, defers := [] } (items [.c c]) := by
    simp [Frame.enter, Frame.at, hfn, hb, b, items, AI.item]
  have hc : ({ c₀ with mode := u } : Frame) = c₀ := by subst hu; rfl
  obtain ⟨a', w', todo, S', v, hs, hd, hr, σ', hM, hv⟩ := h w S ⟨X.roots, X.own, []⟩ hX _ w S σ hst b (c₀ :: cs)
  rw [← henter] at hs
  exact ⟨.returned v, u, w', _, ⟨rfl, v, rfl, S', σ', hM.undfs, hM.undfs.kept, hv⟩, by rw [hc]; exact hs, rfl, rfl, hd, fn, hfn, hr⟩
theorem fnV_good (hP : tabOk Γ.P = true) (hZ : zeroOk Γ.P = true) {call : Handle} (hc : CallsOK Γ call) {n : Nat} {g : FuncId} {args : List AV} {obs : Objs} {r : AV} {obs' : Objs}
    (h : fnV Γ call n g args obs = some (r, obs')) : ∃ fn c, Γ.P.funcs[g]? = some fn ∧ fn.body = some c ∧ ∀ (w : World) (S : Addr → Prop) (X : XB), X.roots.length = rootsOf Γ.roots g → GoodAt Γ w S X fn [.c c] ⟨params args, obs⟩ (r, obs') := by
  unfold fnV at h
  cases hfn : Γ.P.funcs[g]? with
  | none => simp [hfn] at h
  | some fn =>
    simp only [hfn] at h
    cases hb : fn.body with
    | none => simp [hb] at h
    | some c =>
      simp only [hb] at h
      exact ⟨fn, c, rfl, hb, fun w S X hX => ev_ok (w0 := w) (S0 := S) (X := X) hP hZ hc hX hfn (runL_ok hP hZ hc hX hfn n) _ _ _ _ h⟩
theorem fnV_ok (hP : tabOk Γ.P = true) (hZ : zeroOk Γ.P = true) {call : Handle} (hc : CallsOK Γ call) {n : Nat} {g : FuncId} {args : List AV} {obs : Objs} {r : AV} {obs' : Objs} (hn : ∀ fn, Γ.P.funcs[g]? = some fn → (fn.name == "runtime.NumGoroutine") = false)
    (h : fnV Γ call n g args obs = some (r, obs')) : RetX Γ g args obs r obs' := by
  obtain ⟨fn, c, hfn, hb, hg⟩ := fnV_good hP hZ hc h
  exact ret_good hfn hb (hn fn hfn) hg
theorem fnV_okD (hP : tabOk Γ.P = true) (hZ : zeroOk Γ.P = true) {call : Handle} (hc : CallsOK Γ call) {n : Nat} {g : FuncId} {args : List AV} {obs : Objs} {r : AV} {obs' : Objs}
    (h : fnV Γ call n g args obs = some (r, obs')) : RetXD Γ g args obs r obs' := by
  obtain ⟨fn, c, hfn, hb, hg⟩ := fnV_good hP hZ hc h
  exact ret_goodD hfn hb hg
end
end Go.Proofs.Ytbdekjlnnbjicaa.V
