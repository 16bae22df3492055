/- Labels by their numbers; a function's text by its number. -/
import Derived.Test.YtjbemleloffafaaDoorFrW
namespace Go.Proofs.YtjbemleloffafaaDoor.V
open Go
set_option linter.unusedVariables false

/-- what is to do at the label with this number -/
def findC (live : List (FuncId × Nat × List Nat)) (f : FuncId) (key : Nat) : Code → List AI → Option (List AI)
  | .seq a b, k => match liveAt live f (keyC b + 100000) with
    | some _ => bif Nat.beq (keyC b + 100000) key then some (.j b :: k) else (match findC live f key a (.j b :: k) with
      | some r => some r
      | none => findC live f key b k)
    | none => match findC live f key a (.c b :: k) with
      | some r => some r
      | none => findC live f key b k
  | .cond _ a b, k => match findC live f key a k with
    | some r => some r
    | none => findC live f key b k
  | .block id c, k => findC live f key c (.blk id :: k)
  | .scope c, k => findC live f key c (.sc c :: k)
  | .loop c, k => bif Nat.beq (keyC c) key then some (.lp c :: k) else findC live f key c (.lp c :: k)
  | _, _ => none
def bodyOf (Γ : Ctx) (f : FuncId) : Code := match Γ.P.funcs[f]? with
  | some fn => match fn.body with
    | some c => c
    | none => .skip
  | none => .skip
def resOf (Γ : Ctx) (f : FuncId) : List ResultVar := match Γ.P.funcs[f]? with
  | some fn => fn.results.toList
  | none => []
def todoAt (Γ : Ctx) (f : FuncId) (key : Nat) : List AI := match findC Γ.live f key (bodyOf Γ f) [] with
  | some r => r
  | none => []
/-- the text, from its head on -/
def evF (Γ : Ctx) (call : Handle) (lab : Lab) (f : FuncId) (args : List AV) (obs : Objs) : Option (AV × Objs) := ev Γ call lab f (resOf Γ f) steps [.c (bodyOf Γ f)] ⟨params args, obs⟩
/-- the text, from behind a label on -/
def evL (Γ : Ctx) (call : Handle) (lab : Lab) (f : FuncId) (key : Nat) (st : St) : Option (AV × Objs) := ev Γ call lab f (resOf Γ f) steps (enterL (todoAt Γ f key)) st
/-- so many rounds, by label numbers -/
abbrev L (Γ : Ctx) (call : Handle) (f : FuncId) (n : Nat) : Lab := runL Γ call f (resOf Γ f) n
theorem L_succ (Γ : Ctx) (call : Handle) (f : FuncId) (n key : Nat) (st : St) : L Γ call f (n + 1) (todoAt Γ f key) st = evL Γ call (L Γ call f n) f key st := rfl
theorem ret_of {Γ : Ctx} {call : Handle} {f : FuncId} {args : List AV} {obs obs' : Objs} {r : AV} {n : Nat} (hP : tabOk Γ.P = true) (hZ : zeroOk Γ.P = true) (hc : CallsOK Γ call)
    (hf : (match Γ.P.funcs[f]? with | some fn => fn.body.isSome && !(fn.name == "runtime.NumGoroutine") | none => false) = true) (h : evF Γ call (L Γ call f n) f args obs = some (r, obs')) : RetX Γ f args obs r obs' := by
  cases hfn : Γ.P.funcs[f]? with
  | none => rw [hfn] at hf; simp at hf
  | some fn =>
    rw [hfn] at hf
    simp only [Bool.and_eq_true, Bool.not_eq_true'] at hf
    obtain ⟨c, hb⟩ := Option.isSome_iff_exists.1 hf.1
    refine fnV_ok hP hZ hc (n := n) (fun fn' h' => by rw [hfn] at h'; cases h'; exact hf.2) ?_
    unfold fnV
    simp only [hfn, hb]
    unfold evF L resOf bodyOf at h
    simpa only [hfn, hb] using h
end Go.Proofs.YtjbemleloffafaaDoor.V
