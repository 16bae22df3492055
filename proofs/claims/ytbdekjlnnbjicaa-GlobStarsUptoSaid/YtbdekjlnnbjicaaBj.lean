/- FrAI, FrZ, FrAA, FrAF: texts of this claim, put together in build order by program. -/
import Derived.Test.YtbdekjlnnbjicaaBi
import Derived.Laws.LoneSync
/- Cells of integers that functions without text load and store at once (atomics), marks. -/
namespace Go.Proofs.Ytbdekjlnnbjicaa.V
open Go
set_option linter.unusedVariables false
set_option linter.unusedSimpArgs false

section
variable {Γ : Ctx} {w0 : World} {S0 : Addr → Prop} {X : XB} {w w' : World} {S S' : Addr → Prop} {σ σ' : Loc} {ob ob' : Objs} {R : Type}

/-- the method of a pointer's type -/
def methOf (P : Program) (t : TypeId) (name : String) : Option FuncId := match P.info? t with
  | some i => match i.methods.find? (·.name == name) with
    | some m => match m.path.isEmpty, m.func, P.underlying t with
      | true, some (g, true), some (.pointer _) => some g
      | _, _, _ => none
    | none => none
  | none => none
theorem meth_ptr {P : Program} {t : TypeId} {name : String} {g : FuncId} (h : methOf P t name = some g) (w : World) (a : Addr) : (method (P.types.size + Made.depth) t (.pointer (some a)) name).run P w = .ok (g, .pointer (some a)) w := by
  unfold methOf at h
  split at h
  · rename_i i hi
    split at h
    · rename_i m hm
      split at h
      · rename_i f e hp hf hu
        cases h
        have hp : m.path = #[] := by simpa using hp
        show (method (P.types.size + 99 + 1) t (.pointer (some a)) name).run P w = _
        generalize P.types.size + 99 = n
        rw [method]
        simp [run_typeInfo w hi, hm, hp, follow, hf, receiverAt, run_underlying hu, Place.get]
      · exact absurd h (by simp)
    · exact absurd h (by simp)
  · exact absurd h (by simp)
theorem fromD_int {P : Program} {t : TypeId} {y : D} {k : IntKind} {x : Int} (h : fromD P t y = .i k x) : y = .int k x := by
  cases y <;> simp only [fromD] at h <;> first | (cases h; rfl) | (exact absurd h (by simp))
/-- an integer that a variable holds: its cell -/
theorem ptr_cell (hP : tabOk Γ.P = true) (hM : MemOK Γ w0 S0 X w S σ ob) {t : TypeId} {j : Nat} {p : List Nat} {u : TypeId} {va : Value} {k : IntKind} {x : Int} (ha : RepA Γ.P w S σ ob (.ptr j p u) va)
    (h : opLoad Γ.P t (.ptr j p u) ob (fun a _ => some a) = some (.i k x)) : ∃ a : Addr, va = .pointer (some a) ∧ w.cell? a = some (.int k x) ∧ w.frozen? a = false ∧ a.spot = none := by
  simp only [opLoad] at h
  obtain ⟨h1, h2⟩ := cond_some h
  obtain rfl := beq_id h1
  split at h2
  · rename_i tb c hob
    simp only [RepA] at ha
    obtain ⟨_, b, off, rfl, ha⟩ := ha
    obtain ⟨rfl, ho⟩ := ha _ _ hob
    have hO := hM.objs j _ hob
    simp only [ObjAt] at hO
    obtain ⟨vs, el, fr, hb, hnf, _, hl, hbox, _, _⟩ := hO
    obtain ⟨hf, v, hv, hrep⟩ := hbox
    obtain ⟨res, A, V, B, hK, hvs, hA, hF⟩ := navA_ok hP p c tb vs off _ _ _ ⟨hf, v, hv, hrep⟩ ho h2
    have hrange := range_of_block hb hvs hA
    have hV : V = [.int k x] := by
      cases res with
      | inl a =>
        simp only at hK
        obtain ⟨g1, hK⟩ := cond_some hK
        obtain ⟨_, v1, hv1, g2⟩ := hF
        have := Option.some.inj hK
        subst this
        simp only [RepA] at g2
        rw [← hv1, g2]
        rfl
      | inr y =>
        simp only at hK
        have hk := openD_id _ _ _ _ _ hK
        have hF : RepT Γ.P w S y (underId Γ.P t) V := hF
        have hr := hF.back hP (openD_has hK)
        have hy := fromD_int (Option.some.inj hk)
        subst hy
        simp only [RepT] at hr
        obtain ⟨_, hr⟩ := hr
        simpa using hr
    subst hV
    refine ⟨_, rfl, ?_, ?_, rfl⟩
    · have := hrange 0 _ rfl
      simpa using this
    · simp only [World.frozen?, hb]
      have hlen : off < vs.length := by rw [hvs]; simp; omega
      have := hnf off hlen
      simpa using this
  · exact absurd h2 (by simp)
/-- what is stored there -/
theorem cell_store (hP : tabOk Γ.P = true) (hM : MemOK Γ w0 S0 X w S σ ob) {t : TypeId} {j : Nat} {p : List Nat} {u : TypeId} {a : Addr} {k : IntKind} {c : Value} {y : Int} {ob' : Objs} (ha : RepA Γ.P w S σ ob (.ptr j p u) (.pointer (some a)))
    (hc : w.cell? a = some c) (hz : w.frozen? a = false) (hs : a.spot = none) (h : opStore Γ.P t (.ptr j p u) (.i k y) ob (fun _ ob => some ob) = some ob') :
    Trans Γ w0 S0 X w S σ ob (w.setCell a (.int k y)) S σ ob' := by
  obtain ⟨ob1, hK, w', ht, hr⟩ := store_ok hP hM ha (x := .i k y) (vx := .int k y) (by simp only [RepA]) h
  have := Option.some.inj hK
  subst this
  have hfit : fits Γ.P t (.i k y) = true := by
    simp only [opStore] at h
    obtain ⟨h1, _⟩ := cond_some h
    simp only [Bool.and_eq_true] at h1
    exact h1.2
  obtain ⟨hsz, _⟩ := fits_size (w := w) (S := S) (σ := σ) (ob := ob) hP (.i k y) t (.int k y) hfit (by simp only [RepA])
  obtain ⟨d, hd⟩ := fits_has hfit
  obtain ⟨b, o, sp⟩ := a
  simp only at hs
  subst hs
  have hrun : (storeVar t ⟨b, o, none⟩ (.int k y)).run Γ.P w = .ok () (w.setCells b o [.int k y]) := by
    have := run_storeCells_cells (P := Γ.P) b o [.int k y] 0 w (by intro j hj; simp at hj; subst hj; simp [hc]) (by intro j hj; simp at hj; subst hj; simp [hz]) (by intro v hv; simp at hv; subst hv; rfl)
    unfold storeVar
    rw [Sem.run_bind, sizeOf_run hd]
    have hcl : (Value.int k y).cells.toList = [.int k y] := rfl
    simp only [Result.andThen_ok, hsz, ne_eq, not_true_eq_false, if_false, Nat.add_zero, hcl] at *
    simpa using this
  have e := (storeAt_run (Γ := Γ) hrun).symm.trans hr
  have e : w.setCells b o [.int k y] = w' := by injection e
  have e2 : w.setCells b o [.int k y] = w.setCell ⟨b, o, none⟩ (.int k y) := rfl
  rw [e2] at e
  rw [e]
  exact ht

theorem rep_one {P : Program} {a : AV} {vals : List Value} (h : RepAs P w S σ ob [a] vals) : ∃ v, vals = [v] ∧ RepA P w S σ ob a v := by
  simp only [RepAs] at h
  obtain ⟨v, _, rfl, h1, rfl⟩ := h
  exact ⟨v, rfl, h1⟩
theorem rep_two {P : Program} {a b : AV} {vals : List Value} (h : RepAs P w S σ ob [a, b] vals) : ∃ v u, vals = [v, u] ∧ RepA P w S σ ob a v ∧ RepA P w S σ ob b u := by
  simp only [RepAs] at h
  obtain ⟨v, _, rfl, h1, u, _, rfl, h2, rfl⟩ := h
  exact ⟨v, u, rfl, h1, h2⟩
theorem unit_rep {P : Program} : RepA P w S σ ob (.tuple []) (.tuple #[]) := by
  simp only [RepA]; exact ⟨[], rfl, by simp only [RepAs]⟩
theorem ext_ret {g : FuncId} {args : List AV} {obs obs' : Objs} {r : AV}
    (h : ∀ (w : World) (S : Addr → Prop) (σ : Loc) (X : XB) (vals : List Value), MemOK Γ w S X w S σ obs → RepAs Γ.P w S σ obs args vals → ∃ v w', (callFunc g vals.toArray).run Γ.P w = .ok (.value v) w' ∧ Trans Γ w S X w S σ obs w' S σ obs' ∧ RepA Γ.P w' S σ obs' r v) : RetX Γ g args obs r obs' := by
  intro w S σ X vals _ hM ha
  obtain ⟨v, w', hr, ht, hv⟩ := h w S σ X vals hM ha
  rw [hr]
  exact ⟨S, σ, ht.1, ht.3, hv⟩
variable {f : FuncId} {fn : Func}
theorem ret_mark0 (hf : Γ.P.funcs[f]? = some fn) (hname : (fn.name == "runtime.NumGoroutine") = false) (hb : fn.body.isNone = true) (hn : Extern.findNext fn = none) (m : Mark)
    (he : Extern.find fn = some (fun _ => do mark m; pure Extern.Race.none_)) : RetX Γ f [] [] (.tuple []) [] := by
  refine ext_ret fun w S σ X vals hM ha => ?_
  simp only [RepAs] at ha
  subst ha
  exact ⟨_, w, run_call_mark0 hf hname hb hn m he w, Trans.refl hM, unit_rep⟩
theorem ret_marked (hf : Γ.P.funcs[f]? = some fn) (hname : (fn.name == "runtime.NumGoroutine") = false) (hb : fn.body.isNone = true) (hn : Extern.findNext fn = none) (m : Addr → Mark)
    (he : Extern.find fn = some (Extern.Race.marked m)) {j : Nat} {p : List Nat} {u : TypeId} {obs : Objs} : RetX Γ f [.ptr j p u] obs (.tuple []) obs := by
  refine ext_ret fun w S σ X vals hM ha => ?_
  obtain ⟨v, rfl, h⟩ := rep_one ha
  simp only [RepA] at h
  obtain ⟨_, b, off, rfl, _⟩ := h
  exact ⟨_, w, run_call_marked hf hname hb hn m he _ w, Trans.refl hM, unit_rep⟩
theorem ret_load (hP : tabOk Γ.P = true) (hf : Γ.P.funcs[f]? = some fn) (hname : (fn.name == "runtime.NumGoroutine") = false) (hb : fn.body.isNone = true) (hn : Extern.findNext fn = none) (k : IntKind)
    (he : Extern.find fn = some (Extern.Atomic.loadT (.int k))) {t : TypeId} {j : Nat} {p : List Nat} {u : TypeId} {obs : Objs} {x : Int} (h : opLoad Γ.P t (.ptr j p u) obs (fun a _ => some a) = some (.i k x)) : RetX Γ f [.ptr j p u] obs (.i k x) obs := by
  refine ext_ret fun w S σ X vals hM ha => ?_
  obtain ⟨v, rfl, hp⟩ := rep_one ha
  obtain ⟨a, rfl, hc, _⟩ := ptr_cell hP hM hp h
  exact ⟨_, w, run_call_load hf hname hb hn k he hc, Trans.refl hM, by simp only [RepA]⟩
theorem ret_store (hP : tabOk Γ.P = true) (hf : Γ.P.funcs[f]? = some fn) (hname : (fn.name == "runtime.NumGoroutine") = false) (hb : fn.body.isNone = true) (hn : Extern.findNext fn = none)
    (he : Extern.find fn = some Extern.Atomic.storeT) {t : TypeId} {j : Nat} {p : List Nat} {u : TypeId} {obs obs' : Objs} {k : IntKind} {x y : Int} (h : opLoad Γ.P t (.ptr j p u) obs (fun a _ => some a) = some (.i k x))
    (h' : opStore Γ.P t (.ptr j p u) (.i k y) obs (fun _ ob => some ob) = some obs') : RetX Γ f [.ptr j p u, .i k y] obs (.tuple []) obs' := by
  refine ext_ret fun w S σ X vals hM ha => ?_
  obtain ⟨v, v', rfl, hp, hy⟩ := rep_two ha
  simp only [RepA] at hy
  subst hy
  obtain ⟨a, rfl, hc, hz, hs⟩ := ptr_cell hP hM hp h
  exact ⟨_, _, run_call_store hf hname hb hn he hc hz, cell_store hP hM hp hc hz hs h', unit_rep⟩
theorem ret_cas (hP : tabOk Γ.P = true) (hf : Γ.P.funcs[f]? = some fn) (hname : (fn.name == "runtime.NumGoroutine") = false) (hb : fn.body.isNone = true) (hn : Extern.findNext fn = none) (k : IntKind)
    (he : Extern.find fn = some (Extern.Atomic.casT (.int k))) {t : TypeId} {j : Nat} {p : List Nat} {u : TypeId} {obs obs' : Objs} {x y : Int} (h : opLoad Γ.P t (.ptr j p u) obs (fun a _ => some a) = some (.i k x))
    (h' : opStore Γ.P t (.ptr j p u) (.i k y) obs (fun _ ob => some ob) = some obs') : RetX Γ f [.ptr j p u, .i k x, .i k y] obs (.b true) obs' := by
  refine ext_ret fun w S σ X vals hM ha => ?_
  simp only [RepAs] at ha
  obtain ⟨v, _, rfl, hp, v', _, rfl, hx, v'', _, rfl, hy, rfl⟩ := ha
  simp only [RepA] at hy hx
  subst hy
  subst hx
  obtain ⟨a, rfl, hc, hz, hs⟩ := ptr_cell hP hM hp h
  exact ⟨_, _, run_call_cas_hit hf hname hb hn k he hc hz, cell_store hP hM hp hc hz hs h', by simp only [RepA]⟩
theorem ret_add (hP : tabOk Γ.P = true) (hf : Γ.P.funcs[f]? = some fn) (hname : (fn.name == "runtime.NumGoroutine") = false) (hb : fn.body.isNone = true) (hn : Extern.findNext fn = none) (k : IntKind)
    (he : Extern.find fn = some (Extern.Atomic.update (Op.intArith .add) k true)) {t : TypeId} {j : Nat} {p : List Nat} {u : TypeId} {obs obs' : Objs} {x y s : Int} (h : opLoad Γ.P t (.ptr j p u) obs (fun a _ => some a) = some (.i k x))
    (hs : ∀ w : World, (Op.intArith .add k x y).run Γ.P w = .ok (.int k s) w) (h' : opStore Γ.P t (.ptr j p u) (.i k s) obs (fun _ ob => some ob) = some obs') : RetX Γ f [.ptr j p u, .i k y] obs (.i k s) obs' := by
  refine ext_ret fun w S σ X vals hM ha => ?_
  obtain ⟨v, v', rfl, hp, hy⟩ := rep_two ha
  simp only [RepA] at hy
  subst hy
  obtain ⟨a, rfl, hc, hz, hsp⟩ := ptr_cell hP hM hp h
  exact ⟨_, _, run_call_add hf hname hb hn k he hc hz (hs w), cell_store hP hM hp hc hz hsp h', by simp only [RepA]⟩
end
end Go.Proofs.Ytbdekjlnnbjicaa.V

/- Labels by their numbers; a function's text by its number. -/
namespace Go.Proofs.Ytbdekjlnnbjicaa.V
open Go
set_option linter.unusedVariables false

/-- what is to do at the label with this number -/
def findC (live : List (FuncId × Nat × List Nat)) (f : FuncId) (key : Nat) : Code → List AI → Option (List AI)
  | .seq a b, k => match liveAt live f (keyC b + 100000) with
    | some _ => bif Nat.beq (keyC b + 100000) key then some (.j b :: k) else (match findC live f key a (.j b :: k) with
      | some r => some r
      | none => findC live f key b k)
    | none => match findC live f key a (.c b :: k) with
      | some r => some r
      | none => findC live f key b k
  | .cond _ a b, k => match findC live f key a k with
    | some r => some r
    | none => findC live f key b k
  | .block id c, k => findC live f key c (.blk id :: k)
  | .scope c, k => findC live f key c (.sc c :: k)
  | .loop c, k => bif Nat.beq (keyC c) key then some (.lp c :: k) else findC live f key c (.lp c :: k)
  | _, _ => none
def bodyOf (Γ : Ctx) (f : FuncId) : Code := match Γ.P.funcs[f]? with
  | some fn => match fn.body with
    | some c => c
    | none => .skip
  | none => .skip
def resOf (Γ : Ctx) (f : FuncId) : List ResultVar := match Γ.P.funcs[f]? with
  | some fn => fn.results.toList
  | none => []
def todoAt (Γ : Ctx) (f : FuncId) (key : Nat) : List AI := match findC Γ.live f key (bodyOf Γ f) [] with
  | some r => r
  | none => []
/-- the text, from its head on -/
def evF (Γ : Ctx) (call : Handle) (lab : Lab) (f : FuncId) (args : List AV) (obs : Objs) : Option (AV × Objs) := ev Γ call lab f (resOf Γ f) steps [.c (bodyOf Γ f)] ⟨params args, obs⟩
/-- the text, from behind a label on -/
def evL (Γ : Ctx) (call : Handle) (lab : Lab) (f : FuncId) (key : Nat) (st : St) : Option (AV × Objs) := ev Γ call lab f (resOf Γ f) steps (enterL (todoAt Γ f key)) st
/-- so many rounds, by label numbers -/
abbrev L (Γ : Ctx) (call : Handle) (f : FuncId) (n : Nat) : Lab := runL Γ call f (resOf Γ f) n
theorem L_succ (Γ : Ctx) (call : Handle) (f : FuncId) (n key : Nat) (st : St) : L Γ call f (n + 1) (todoAt Γ f key) st = evL Γ call (L Γ call f n) f key st := rfl
theorem ret_of {Γ : Ctx} {call : Handle} {f : FuncId} {args : List AV} {obs obs' : Objs} {r : AV} {n : Nat} (hP : tabOk Γ.P = true) (hZ : zeroOk Γ.P = true) (hc : CallsOK Γ call)
    (hf : (match Γ.P.funcs[f]? with | some fn => fn.body.isSome && !(fn.name == "runtime.NumGoroutine") | none => false) = true) (h : evF Γ call (L Γ call f n) f args obs = some (r, obs')) : RetX Γ f args obs r obs' := by
  cases hfn : Γ.P.funcs[f]? with
  | none => rw [hfn] at hf; simp at hf
  | some fn =>
    rw [hfn] at hf
    simp only [Bool.and_eq_true, Bool.not_eq_true'] at hf
    obtain ⟨c, hb⟩ := Option.isSome_iff_exists.1 hf.1
    refine fnV_ok hP hZ hc (n := n) (fun fn' h' => by rw [hfn] at h'; cases h'; exact hf.2) ?_
    unfold fnV
    simp only [hfn, hb]
    unfold evF L resOf bodyOf at h
    simpa only [hfn, hb] using h
end Go.Proofs.Ytbdekjlnnbjicaa.V

/- Contracts in a list; what may be forgotten of a result; loops by some number of rounds. -/
namespace Go.Proofs.Ytbdekjlnnbjicaa.V
open Go
set_option linter.unusedVariables false
set_option linter.unusedSimpArgs false

/-- what is known of the one is known of the other -/
def WkA (P : Program) (a b : AV) : Prop := ∀ (w : World) (S : Addr → Prop) (σ : Loc) (ob : Objs) (v : Value), RepA P w S σ ob a v → RepA P w S σ ob b v
inductive WkL (P : Program) : List AV → List AV → Prop where
  | nil : WkL P [] []
  | cons {a b : AV} {l m : List AV} : WkA P a b → WkL P l m → WkL P (a :: l) (b :: m)
section
variable {P : Program}
theorem WkA.refl (a : AV) : WkA P a a := fun _ _ _ _ _ h => h
theorem WkA.trans {a b c : AV} (h : WkA P a b) (h' : WkA P b c) : WkA P a c := fun w S σ ob v x => h' w S σ ob v (h w S σ ob v x)
theorem WkA.nil (e : TypeId) : WkA P .snil (.sl e .any []) := fun w S σ ob v h => by
  simp only [RepA] at h ⊢
  exact ⟨none, 0, h, by simp [CapOK], .inl (by trivial)⟩
theorem CapOK.any {c : Cp} {a : Option Addr} {n cap : Nat} (h : CapOK c a n cap) : CapOK .any a n cap := by
  cases c <;> simp only [CapOK] at h ⊢
  · exact ⟨by omega, fun _ => h.2.2⟩
  · exact ⟨by omega, fun hn => by rw [hn] at h; simp at h⟩
  · exact h
  · exact ⟨h.1, fun hn => by rw [hn] at h; simp at h⟩
  · exact ⟨by omega, h.2⟩
theorem WkA.sl (e : TypeId) (c : Cp) (xs : List D) : WkA P (.sl e c xs) (.sl e .any xs) := fun w S σ ob v h => by
  simp only [RepA] at h ⊢
  obtain ⟨a, cap, h1, h2, h3⟩ := h
  exact ⟨a, cap, h1, h2.any, h3⟩
theorem WkL.rep : ∀ {l m : List AV}, WkL P l m → ∀ {w : World} {S : Addr → Prop} {σ : Loc} {ob : Objs} {vs : List Value}, RepAs P w S σ ob l vs → RepAs P w S σ ob m vs
  | _, _, .nil, w, S, σ, ob, vs, h => h
  | _, _, .cons h1 h2, w, S, σ, ob, vs, h => by
    simp only [RepAs] at h ⊢
    obtain ⟨v, vs', rfl, g1, g2⟩ := h
    exact ⟨v, vs', rfl, h1 w S σ ob v g1, h2.rep g2⟩
theorem WkA.tuple {l m : List AV} (h : WkL P l m) : WkA P (.tuple l) (.tuple m) := fun w S σ ob v hv => by
  simp only [RepA] at hv ⊢
  obtain ⟨vs, rfl, hv⟩ := hv
  exact ⟨vs, rfl, h.rep hv⟩
end

variable {Γ : Ctx}
theorem RetX.wk {f : FuncId} {args : List AV} {obs obs' : Objs} {r r' : AV} (h : RetX Γ f args obs r obs') (k : WkA Γ.P r r') : RetX Γ f args obs r' obs' := by
  intro w S σ X vals h0 h1 h2
  refine (h w S σ X vals h0 h1 h2).mono ?_
  rintro v w' ⟨S', σ', h3, h4, h5⟩
  exact ⟨S', σ', h3, h4, k w' S' σ' obs' v h5⟩

/-- a contract -/
structure Spec where
  g : FuncId
  run : List AV → Objs → Option (Bool × AV × Objs)
def runS : List Spec → Handle
  | [], _, _, _ => none
  | s :: l, g, args, ob => bif Nat.beq s.g g then s.run args ob else runS l g args ob
def SpecOK (Γ : Ctx) (s : Spec) : Prop := ∀ args obs r obs', s.run args obs = some (true, r, obs') → RetX Γ s.g args obs r obs'
inductive SpecsOK (Γ : Ctx) : List Spec → Prop where
  | nil : SpecsOK Γ []
  | cons {s : Spec} {l : List Spec} : SpecOK Γ s → SpecsOK Γ l → SpecsOK Γ (s :: l)
theorem specs_ok : ∀ {l : List Spec}, SpecsOK Γ l → CallsOK Γ (runS l)
  | _, .nil, g, args, obs, r, obs', h => by simp [runS] at h
  | _, .cons (s := s) (l := l) h1 h2, g, args, obs, r, obs', h => by
    simp only [runS] at h
    cases hb : Nat.beq s.g g with
    | true =>
      rw [hb] at h
      obtain rfl := beq_id hb
      exact h1 _ _ _ _ h
    | false => rw [hb] at h; exact specs_ok h2 g args obs r obs' h

/-- from a label on, some number of rounds lead to a result -/
def Goes (Γ : Ctx) (call : Handle) (f : FuncId) (key : Nat) (st : St) (r : AV × Objs) : Prop := ∃ n, L Γ call f n (todoAt Γ f key) st = some r
theorem Goes.step {call : Handle} {f : FuncId} {key : Nat} {st : St} {r : AV × Objs} (h : ∃ n, evL Γ call (L Γ call f n) f key st = some r) : Goes Γ call f key st r := by
  obtain ⟨n, h⟩ := h
  exact ⟨n + 1, by rw [L_succ]; exact h⟩
theorem ret_goes {call : Handle} {f : FuncId} {args : List AV} {obs obs' : Objs} {r : AV} (hP : tabOk Γ.P = true) (hZ : zeroOk Γ.P = true) (hc : CallsOK Γ call)
    (hf : (match Γ.P.funcs[f]? with | some fn => fn.body.isSome && !(fn.name == "runtime.NumGoroutine") | none => false) = true) (h : ∃ n, evF Γ call (L Γ call f n) f args obs = some (r, obs')) : RetX Γ f args obs r obs' := by
  obtain ⟨n, h⟩ := h
  exact ret_of hP hZ hc hf h

/-! ### contracts by the shape of the arguments -/
def dat (o : List AV → Option (Bool × AV)) (args : List AV) (ob : Objs) : Option (Bool × AV × Objs) := lNil ob (match o args with | some (c, r) => some (c, r, []) | none => none)
def sp0 (c : Bool) (f : AV) : List AV → Option (Bool × AV)
  | [] => some (c, f)
  | _ => none
def sp1 (c : List UInt8 → Bool) (f : List UInt8 → AV) : List AV → Option (Bool × AV)
  | [.s p] => some (c p, f p)
  | _ => none
def sp2 (c : List UInt8 → List UInt8 → Bool) (f : List UInt8 → List UInt8 → AV) : List AV → Option (Bool × AV)
  | [.s p, .s q] => some (c p q, f p q)
  | _ => none
def sp3 (c : List UInt8 → List UInt8 → List UInt8 → Bool) (f : List UInt8 → List UInt8 → List UInt8 → AV) : List AV → Option (Bool × AV)
  | [.s p, .s q, .s u] => some (c p q u, f p q u)
  | _ => none
theorem dat_ok {g : FuncId} {o : List AV → Option (Bool × AV)} (h : ∀ args r, o args = some (true, r) → RetX Γ g args [] r []) : SpecOK Γ ⟨g, dat o⟩ := by
  intro args obs r obs' hr
  change dat o args obs = some (true, r, obs') at hr
  unfold dat at hr
  cases obs with
  | cons _ _ => simp [lNil] at hr
  | nil =>
    simp only [lNil] at hr
    split at hr
    · rename_i c x hx
      cases hr
      exact h args r hx
    · exact absurd hr (by simp)
theorem sp0_ok {g : FuncId} {c : Bool} {f : AV} (h : c = true → RetX Γ g [] [] f []) : SpecOK Γ ⟨g, dat (sp0 c f)⟩ := dat_ok fun args r hr => by
  unfold sp0 at hr
  split at hr
  · cases hr; exact h rfl
  · exact absurd hr (by simp)
theorem sp1_ok {g : FuncId} {c : List UInt8 → Bool} {f : List UInt8 → AV} (h : ∀ p, c p = true → RetX Γ g [.s p] [] (f p) []) : SpecOK Γ ⟨g, dat (sp1 c f)⟩ := dat_ok fun args r hr => by
  unfold sp1 at hr
  split at hr
  · simp only [Option.some.injEq, Prod.mk.injEq] at hr
    obtain ⟨h1, rfl⟩ := hr
    exact h _ h1
  · exact absurd hr (by simp)
theorem sp2_ok {g : FuncId} {c : List UInt8 → List UInt8 → Bool} {f : List UInt8 → List UInt8 → AV} (h : ∀ p q, c p q = true → RetX Γ g [.s p, .s q] [] (f p q) []) : SpecOK Γ ⟨g, dat (sp2 c f)⟩ := dat_ok fun args r hr => by
  unfold sp2 at hr
  split at hr
  · simp only [Option.some.injEq, Prod.mk.injEq] at hr
    obtain ⟨h1, rfl⟩ := hr
    exact h _ _ h1
  · exact absurd hr (by simp)
theorem sp3_ok {g : FuncId} {c : List UInt8 → List UInt8 → List UInt8 → Bool} {f : List UInt8 → List UInt8 → List UInt8 → AV} (h : ∀ p q u, c p q u = true → RetX Γ g [.s p, .s q, .s u] [] (f p q u) []) : SpecOK Γ ⟨g, dat (sp3 c f)⟩ := dat_ok fun args r hr => by
  unfold sp3 at hr
  split at hr
  · simp only [Option.some.injEq, Prod.mk.injEq] at hr
    obtain ⟨h1, rfl⟩ := hr
    exact h _ _ _ h1
  · exact absurd hr (by simp)

end Go.Proofs.Ytbdekjlnnbjicaa.V

/- A machine that runs by itself: calls within calls. -/
namespace Go.Proofs.Ytbdekjlnnbjicaa.V
open Go
set_option linter.unusedVariables false
set_option linter.unusedSimpArgs false

def hasBody (Γ : Ctx) (f : FuncId) : Bool := match Γ.P.funcs[f]? with
  | some fn => fn.body.isSome
  | none => false
/-- so many calls and rounds deep; 'ext': what is known of functions -/
def runN (Γ : Ctx) (ext : Handle) : Nat → FuncId → List AI → St → Option (AV × Objs)
  | 0, _, _, _ => none
  | n + 1, f, todo, st => ev Γ (fun g args ob => match ext g args ob with
      | some r => some r
      | none => bif hasBody Γ g then (match runN Γ ext n g [.c (bodyOf Γ g)] ⟨params args, ob⟩ with
        | some (r, o) => some (true, r, o)
        | none => none) else none)
      (fun todo' st' => runN Γ ext n f (enterL todo') st') f (resOf Γ f) steps todo st
def callN (Γ : Ctx) (ext : Handle) (n : Nat) : Handle := fun g args ob => match ext g args ob with
  | some r => some r
  | none => bif hasBody Γ g then (match runN Γ ext n g [.c (bodyOf Γ g)] ⟨params args, ob⟩ with
        | some (r, o) => some (true, r, o)
        | none => none) else none

section
variable {Γ : Ctx}
theorem runN_ok (hP : tabOk Γ.P = true) (hZ : zeroOk Γ.P = true) (hN : (Γ.P.funcs.toList.all fun fn => !(fn.name == "runtime.NumGoroutine")) = true) {ext : Handle} (hext : CallsOK Γ ext) : ∀ n,
    (∀ (f : FuncId) (fn : Func), Γ.P.funcs[f]? = some fn → ∀ (w0 : World) (S0 : Addr → Prop) (X : XB), X.roots.length = rootsOf Γ.roots f → ∀ todo st r, runN Γ ext n f todo st = some r → GoodAt Γ w0 S0 X fn todo st r) ∧ CallsOK Γ (callN Γ ext n)
  | 0 => by
    refine ⟨fun f fn hf w0 S0 X hX todo st r h => by simp [runN] at h, fun g args obs r obs' h => ?_⟩
    unfold callN at h
    split at h
    · rename_i x hx
      cases h
      exact hext g args obs r obs' hx
    · cases hb : hasBody Γ g <;> simp [hb, runN] at h
  | n + 1 => by
    obtain ⟨ih1, ih2⟩ := runN_ok hP hZ hN hext n
    have step : ∀ (f : FuncId) (fn : Func), Γ.P.funcs[f]? = some fn → ∀ (w0 : World) (S0 : Addr → Prop) (X : XB), X.roots.length = rootsOf Γ.roots f → ∀ todo st r, runN Γ ext (n + 1) f todo st = some r → GoodAt Γ w0 S0 X fn todo st r := by
      intro f fn hf w0 S0 X hX todo st r h
      simp only [runN] at h
      have hres : resOf Γ f = fn.results.toList := by unfold resOf; rw [hf]
      rw [hres] at h
      exact ev_ok hP hZ ih2 hX hf (fun todo' st' res' h' => ih1 f fn hf w0 S0 X hX _ _ _ h') _ _ _ _ h
    refine ⟨step, fun g args obs r obs' h => ?_⟩
    unfold callN at h
    split at h
    · rename_i x hx
      cases h
      exact hext g args obs r obs' hx
    · obtain ⟨hb, h⟩ := cond_some h
      have h : runN Γ ext (n + 1) g [.c (bodyOf Γ g)] ⟨params args, obs⟩ = some (r, obs') := by
        split at h
        · rename_i r1 o1 h1; cases h; exact h1
        · exact absurd h (by simp)
      cases hfn : Γ.P.funcs[g]? with
      | none => unfold hasBody at hb; rw [hfn] at hb; simp at hb
      | some fn =>
        unfold hasBody at hb
        rw [hfn] at hb
        obtain ⟨c, hc⟩ := Option.isSome_iff_exists.1 hb
        have hbo : bodyOf Γ g = c := by unfold bodyOf; rw [hfn]; simp only [hc]
        rw [hbo] at h
        have hname := List.all_eq_true.1 hN fn (List.mem_of_getElem? (by simpa using hfn))
        exact ret_good hfn hc (by simpa using hname) fun w S X hX => step g fn hfn w S X hX _ _ _ h
/-- a call that comes to an end by itself -/
theorem ret_run (hP : tabOk Γ.P = true) (hZ : zeroOk Γ.P = true) (hN : (Γ.P.funcs.toList.all fun fn => !(fn.name == "runtime.NumGoroutine")) = true) {ext : Handle} (hext : CallsOK Γ ext) {n : Nat} {g : FuncId} {args : List AV} {obs obs' : Objs} {r : AV}
    (h : callN Γ ext n g args obs = some (true, r, obs')) : RetX Γ g args obs r obs' := (runN_ok hP hZ hN hext n).2 g args obs r obs' h
end
end Go.Proofs.Ytbdekjlnnbjicaa.V
