/- Contracts in a list; what may be forgotten of a result; loops by some number of rounds. -/
import Derived.Test.YtjbemleloffafaaDoorFrZ
namespace Go.Proofs.YtjbemleloffafaaDoor.V
open Go
set_option linter.unusedVariables false
set_option linter.unusedSimpArgs false

/-- what is known of the one is known of the other -/
def WkA (P : Program) (a b : AV) : Prop := ∀ (w : World) (S : Addr → Prop) (σ : Loc) (ob : Objs) (v : Value), RepA P w S σ ob a v → RepA P w S σ ob b v
inductive WkL (P : Program) : List AV → List AV → Prop where
  | nil : WkL P [] []
  | cons {a b : AV} {l m : List AV} : WkA P a b → WkL P l m → WkL P (a :: l) (b :: m)
section
variable {P : Program}
theorem WkA.refl (a : AV) : WkA P a a := fun _ _ _ _ _ h => h
theorem WkA.trans {a b c : AV} (h : WkA P a b) (h' : WkA P b c) : WkA P a c := fun w S σ ob v x => h' w S σ ob v (h w S σ ob v x)
theorem WkA.nil (e : TypeId) : WkA P .snil (.sl e .any []) := fun w S σ ob v h => by
  simp only [RepA] at h ⊢
  exact ⟨none, 0, h, by simp [CapOK], .inl (by trivial)⟩
theorem CapOK.any {c : Cp} {a : Option Addr} {n cap : Nat} (h : CapOK c a n cap) : CapOK .any a n cap := by
  cases c <;> simp only [CapOK] at h ⊢
  · exact ⟨by omega, fun _ => h.2.2⟩
  · exact ⟨by omega, fun hn => by rw [hn] at h; simp at h⟩
  · exact h
  · exact ⟨h.1, fun hn => by rw [hn] at h; simp at h⟩
theorem WkA.sl (e : TypeId) (c : Cp) (xs : List D) : WkA P (.sl e c xs) (.sl e .any xs) := fun w S σ ob v h => by
  simp only [RepA] at h ⊢
  obtain ⟨a, cap, h1, h2, h3⟩ := h
  exact ⟨a, cap, h1, h2.any, h3⟩
theorem WkL.rep : ∀ {l m : List AV}, WkL P l m → ∀ {w : World} {S : Addr → Prop} {σ : Loc} {ob : Objs} {vs : List Value}, RepAs P w S σ ob l vs → RepAs P w S σ ob m vs
  | _, _, .nil, w, S, σ, ob, vs, h => h
  | _, _, .cons h1 h2, w, S, σ, ob, vs, h => by
    simp only [RepAs] at h ⊢
    obtain ⟨v, vs', rfl, g1, g2⟩ := h
    exact ⟨v, vs', rfl, h1 w S σ ob v g1, h2.rep g2⟩
theorem WkA.tuple {l m : List AV} (h : WkL P l m) : WkA P (.tuple l) (.tuple m) := fun w S σ ob v hv => by
  simp only [RepA] at hv ⊢
  obtain ⟨vs, rfl, hv⟩ := hv
  exact ⟨vs, rfl, h.rep hv⟩
end

variable {Γ : Ctx}
theorem RetX.wk {f : FuncId} {args : List AV} {obs obs' : Objs} {r r' : AV} (h : RetX Γ f args obs r obs') (k : WkA Γ.P r r') : RetX Γ f args obs r' obs' := by
  intro w S σ X vals h0 h1 h2
  refine (h w S σ X vals h0 h1 h2).mono ?_
  rintro v w' ⟨S', σ', h3, h4, h5⟩
  exact ⟨S', σ', h3, h4, k w' S' σ' obs' v h5⟩

/-- a contract -/
structure Spec where
  g : FuncId
  run : List AV → Objs → Option (Bool × AV × Objs)
def runS : List Spec → Handle
  | [], _, _, _ => none
  | s :: l, g, args, ob => bif Nat.beq s.g g then s.run args ob else runS l g args ob
def SpecOK (Γ : Ctx) (s : Spec) : Prop := ∀ args obs r obs', s.run args obs = some (true, r, obs') → RetX Γ s.g args obs r obs'
inductive SpecsOK (Γ : Ctx) : List Spec → Prop where
  | nil : SpecsOK Γ []
  | cons {s : Spec} {l : List Spec} : SpecOK Γ s → SpecsOK Γ l → SpecsOK Γ (s :: l)
theorem specs_ok : ∀ {l : List Spec}, SpecsOK Γ l → CallsOK Γ (runS l)
  | _, .nil, g, args, obs, r, obs', h => by simp [runS] at h
  | _, .cons (s := s) (l := l) h1 h2, g, args, obs, r, obs', h => by
    simp only [runS] at h
    cases hb : Nat.beq s.g g with
    | true =>
      rw [hb] at h
      obtain rfl := beq_id hb
      exact h1 _ _ _ _ h
    | false => rw [hb] at h; exact specs_ok h2 g args obs r obs' h

/-- from a label on, some number of rounds lead to a result -/
def Goes (Γ : Ctx) (call : Handle) (f : FuncId) (key : Nat) (st : St) (r : AV × Objs) : Prop := ∃ n, L Γ call f n (todoAt Γ f key) st = some r
theorem Goes.step {call : Handle} {f : FuncId} {key : Nat} {st : St} {r : AV × Objs} (h : ∃ n, evL Γ call (L Γ call f n) f key st = some r) : Goes Γ call f key st r := by
  obtain ⟨n, h⟩ := h
  exact ⟨n + 1, by rw [L_succ]; exact h⟩
theorem ret_goes {call : Handle} {f : FuncId} {args : List AV} {obs obs' : Objs} {r : AV} (hP : tabOk Γ.P = true) (hZ : zeroOk Γ.P = true) (hc : CallsOK Γ call)
    (hf : (match Γ.P.funcs[f]? with | some fn => fn.body.isSome && !(fn.name == "runtime.NumGoroutine") | none => false) = true) (h : ∃ n, evF Γ call (L Γ call f n) f args obs = some (r, obs')) : RetX Γ f args obs r obs' := by
  obtain ⟨n, h⟩ := h
  exact ret_of hP hZ hc hf h

/-! ### contracts by the shape of the arguments -/
def dat (o : List AV → Option (Bool × AV)) (args : List AV) (ob : Objs) : Option (Bool × AV × Objs) := lNil ob (match o args with | some (c, r) => some (c, r, []) | none => none)
def sp0 (c : Bool) (f : AV) : List AV → Option (Bool × AV)
  | [] => some (c, f)
  | _ => none
def sp1 (c : List UInt8 → Bool) (f : List UInt8 → AV) : List AV → Option (Bool × AV)
  | [.s p] => some (c p, f p)
  | _ => none
def sp2 (c : List UInt8 → List UInt8 → Bool) (f : List UInt8 → List UInt8 → AV) : List AV → Option (Bool × AV)
  | [.s p, .s q] => some (c p q, f p q)
  | _ => none
def sp3 (c : List UInt8 → List UInt8 → List UInt8 → Bool) (f : List UInt8 → List UInt8 → List UInt8 → AV) : List AV → Option (Bool × AV)
  | [.s p, .s q, .s u] => some (c p q u, f p q u)
  | _ => none
theorem dat_ok {g : FuncId} {o : List AV → Option (Bool × AV)} (h : ∀ args r, o args = some (true, r) → RetX Γ g args [] r []) : SpecOK Γ ⟨g, dat o⟩ := by
  intro args obs r obs' hr
  change dat o args obs = some (true, r, obs') at hr
  unfold dat at hr
  cases obs with
  | cons _ _ => simp [lNil] at hr
  | nil =>
    simp only [lNil] at hr
    split at hr
    · rename_i c x hx
      cases hr
      exact h args r hx
    · exact absurd hr (by simp)
theorem sp0_ok {g : FuncId} {c : Bool} {f : AV} (h : c = true → RetX Γ g [] [] f []) : SpecOK Γ ⟨g, dat (sp0 c f)⟩ := dat_ok fun args r hr => by
  unfold sp0 at hr
  split at hr
  · cases hr; exact h rfl
  · exact absurd hr (by simp)
theorem sp1_ok {g : FuncId} {c : List UInt8 → Bool} {f : List UInt8 → AV} (h : ∀ p, c p = true → RetX Γ g [.s p] [] (f p) []) : SpecOK Γ ⟨g, dat (sp1 c f)⟩ := dat_ok fun args r hr => by
  unfold sp1 at hr
  split at hr
  · simp only [Option.some.injEq, Prod.mk.injEq] at hr
    obtain ⟨h1, rfl⟩ := hr
    exact h _ h1
  · exact absurd hr (by simp)
theorem sp2_ok {g : FuncId} {c : List UInt8 → List UInt8 → Bool} {f : List UInt8 → List UInt8 → AV} (h : ∀ p q, c p q = true → RetX Γ g [.s p, .s q] [] (f p q) []) : SpecOK Γ ⟨g, dat (sp2 c f)⟩ := dat_ok fun args r hr => by
  unfold sp2 at hr
  split at hr
  · simp only [Option.some.injEq, Prod.mk.injEq] at hr
    obtain ⟨h1, rfl⟩ := hr
    exact h _ _ h1
  · exact absurd hr (by simp)
theorem sp3_ok {g : FuncId} {c : List UInt8 → List UInt8 → List UInt8 → Bool} {f : List UInt8 → List UInt8 → List UInt8 → AV} (h : ∀ p q u, c p q u = true → RetX Γ g [.s p, .s q, .s u] [] (f p q u) []) : SpecOK Γ ⟨g, dat (sp3 c f)⟩ := dat_ok fun args r hr => by
  unfold sp3 at hr
  split at hr
  · simp only [Option.some.injEq, Prod.mk.injEq] at hr
    obtain ⟨h1, rfl⟩ := hr
    exact h _ _ _ h1
  · exact absurd hr (by simp)

end Go.Proofs.YtjbemleloffafaaDoor.V
