/- A machine that runs by itself: calls within calls. -/
import Derived.Test.YtjbemleloffafaaDoorFrAA
namespace Go.Proofs.YtjbemleloffafaaDoor.V
open Go
set_option linter.unusedVariables false
set_option linter.unusedSimpArgs false

def hasBody (Γ : Ctx) (f : FuncId) : Bool := match Γ.P.funcs[f]? with
  | some fn => fn.body.isSome
  | none => false
/-- so many calls and rounds deep; 'ext': what is known of functions -/
def runN (Γ : Ctx) (ext : Handle) : Nat → FuncId → List AI → St → Option (AV × Objs)
  | 0, _, _, _ => none
  | n + 1, f, todo, st => ev Γ (fun g args ob => match ext g args ob with
      | some r => some r
      | none => bif hasBody Γ g then (match runN Γ ext n g [.c (bodyOf Γ g)] ⟨params args, ob⟩ with
        | some (r, o) => some (true, r, o)
        | none => none) else none)
      (fun todo' st' => runN Γ ext n f (enterL todo') st') f (resOf Γ f) steps todo st
def callN (Γ : Ctx) (ext : Handle) (n : Nat) : Handle := fun g args ob => match ext g args ob with
  | some r => some r
  | none => bif hasBody Γ g then (match runN Γ ext n g [.c (bodyOf Γ g)] ⟨params args, ob⟩ with
        | some (r, o) => some (true, r, o)
        | none => none) else none

section
variable {Γ : Ctx}
theorem ret_good {g : FuncId} {fn : Func} {c : Code} {args : List AV} {obs obs' : Objs} {r : AV} (hfn : Γ.P.funcs[g]? = some fn) (hb : fn.body = some c) (hn : (fn.name == "runtime.NumGoroutine") = false)
    (h : ∀ (w : World) (S : Addr → Prop) (X : XB), X.roots.length = rootsOf Γ.roots g → GoodAt Γ w S X fn [.c c] ⟨params args, obs⟩ (r, obs')) : RetX Γ g args obs r obs' := by
  intro w S σ X vals hX hM0 ha
  have hst := start_ok (fn := fn) hM0 ha
  have hrun : (callFunc g vals.toArray).run Γ.P w = .ok (.enter g vals.toArray) w := by
    have hne : ¬ fn.name = "runtime.NumGoroutine" := by simpa using hn
    simp [callFunc, hfn, hb, hne]
  rw [hrun]
  show Calls Γ.P g vals.toArray w _
  intro cs
  let b : Frame := { (default : Frame) with fn := g, kind := .normal }
  have henter : Frame.enter Γ.P g vals.toArray .normal = b.at { tmps := vals.toArray ++ Array.replicate (fn.ntmps - vals.toArray.size) undef, defers := [] } (items [.c c]) := by
    simp [Frame.enter, Frame.at, hfn, hb, b, items, AI.item]
  obtain ⟨a', w', todo, S', v, hs, hd, hr, σ', hM, hv⟩ := h w S X hX _ w S σ hst b cs
  rw [← henter] at hs
  exact ⟨.returned v, w', _, ⟨v, rfl, S', σ', hM, hM.kept, hv⟩, hs, rfl, rfl, hd, rfl, fn, hfn, hr⟩

theorem runN_ok (hP : tabOk Γ.P = true) (hZ : zeroOk Γ.P = true) (hN : (Γ.P.funcs.toList.all fun fn => !(fn.name == "runtime.NumGoroutine")) = true) {ext : Handle} (hext : CallsOK Γ ext) : ∀ n,
    (∀ (f : FuncId) (fn : Func), Γ.P.funcs[f]? = some fn → ∀ (w0 : World) (S0 : Addr → Prop) (X : XB), X.roots.length = rootsOf Γ.roots f → ∀ todo st r, runN Γ ext n f todo st = some r → GoodAt Γ w0 S0 X fn todo st r) ∧ CallsOK Γ (callN Γ ext n)
  | 0 => by
    refine ⟨fun f fn hf w0 S0 X hX todo st r h => by simp [runN] at h, fun g args obs r obs' h => ?_⟩
    unfold callN at h
    split at h
    · rename_i x hx
      cases h
      exact hext g args obs r obs' hx
    · cases hb : hasBody Γ g <;> simp [hb, runN] at h
  | n + 1 => by
    obtain ⟨ih1, ih2⟩ := runN_ok hP hZ hN hext n
    have step : ∀ (f : FuncId) (fn : Func), Γ.P.funcs[f]? = some fn → ∀ (w0 : World) (S0 : Addr → Prop) (X : XB), X.roots.length = rootsOf Γ.roots f → ∀ todo st r, runN Γ ext (n + 1) f todo st = some r → GoodAt Γ w0 S0 X fn todo st r := by
      intro f fn hf w0 S0 X hX todo st r h
      simp only [runN] at h
      have hres : resOf Γ f = fn.results.toList := by unfold resOf; rw [hf]
      rw [hres] at h
      exact ev_ok hP hZ ih2 hX hf (fun todo' st' res' h' => ih1 f fn hf w0 S0 X hX _ _ _ h') _ _ _ _ h
    refine ⟨step, fun g args obs r obs' h => ?_⟩
    unfold callN at h
    split at h
    · rename_i x hx
      cases h
      exact hext g args obs r obs' hx
    · obtain ⟨hb, h⟩ := cond_some h
      have h : runN Γ ext (n + 1) g [.c (bodyOf Γ g)] ⟨params args, obs⟩ = some (r, obs') := by
        split at h
        · rename_i r1 o1 h1; cases h; exact h1
        · exact absurd h (by simp)
      cases hfn : Γ.P.funcs[g]? with
      | none => unfold hasBody at hb; rw [hfn] at hb; simp at hb
      | some fn =>
        unfold hasBody at hb
        rw [hfn] at hb
        obtain ⟨c, hc⟩ := Option.isSome_iff_exists.1 hb
        have hbo : bodyOf Γ g = c := by unfold bodyOf; rw [hfn]; simp only [hc]
        rw [hbo] at h
        have hname := List.all_eq_true.1 hN fn (List.mem_of_getElem? (by simpa using hfn))
        exact ret_good hfn hc (by simpa using hname) fun w S X hX => step g fn hfn w S X hX _ _ _ h
/-- a call that comes to an end by itself -/
theorem ret_run (hP : tabOk Γ.P = true) (hZ : zeroOk Γ.P = true) (hN : (Γ.P.funcs.toList.all fun fn => !(fn.name == "runtime.NumGoroutine")) = true) {ext : Handle} (hext : CallsOK Γ ext) {n : Nat} {g : FuncId} {args : List AV} {obs obs' : Objs} {r : AV}
    (h : callN Γ ext n g args obs = some (true, r, obs')) : RetX Γ g args obs r obs' := (runN_ok hP hZ hN hext n).2 g args obs r obs' h
end
end Go.Proofs.YtjbemleloffafaaDoor.V
