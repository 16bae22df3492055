/- Code: what the machine over values says of it, the machine does. -/
import Derived.Test.YtjbemleloffafaaDoorFrU
import Derived.Test.YtjbemleloffafaaDoorFrAD
namespace Go.Proofs.YtjbemleloffafaaDoor.V
open Go
set_option linter.unusedVariables false
set_option linter.unusedSimpArgs false

section
variable {Γ : Ctx} {w0 : World} {S0 : Addr → Prop} {X : XB} {w w' : World} {S S' : Addr → Prop} {σ σ' : Loc} {ob ob' : Objs} {R : Type}

/-- from here a frame comes to its end, with this result -/
def Fin (Γ : Ctx) (w0 : World) (S0 : Addr → Prop) (X : XB) (fn : Func) (b : Frame) (cs : List Frame) (res : AV × Objs) (m : Machine) : Prop :=
  ∃ (a' : Act) (w' : World) (todo : List Item) (S' : Addr → Prop) (v : Value), Steps Γ.P m (lone { b.at a' todo with mode := .returning } cs w') ∧ a'.defers = [] ∧ (results fn a'.tmps).run Γ.P w' = .ok v w' ∧
    ∃ σ', MemOK Γ w0 S0 X w' S' σ' res.2 ∧ RepA Γ.P w' S' σ' res.2 res.1 v
theorem Fin.of_steps {fn : Func} {b : Frame} {cs : List Frame} {res : AV × Objs} {m m' : Machine} (h : Steps Γ.P m m') (h' : Fin Γ w0 S0 X fn b cs res m') : Fin Γ w0 S0 X fn b cs res m := by
  obtain ⟨a', w', todo, S', v, g1, g2⟩ := h'
  exact ⟨a', w', todo, S', v, h.trans g1, g2⟩
def GoodAt (Γ : Ctx) (w0 : World) (S0 : Addr → Prop) (X : XB) (fn : Func) (todo : List AI) (st : St) (res : AV × Objs) : Prop :=
  ∀ (a : Act) (w : World) (S : Addr → Prop) (σ : Loc), StOK Γ w0 S0 X fn.ntmps st a w S σ → ∀ (b : Frame) (cs : List Frame), Fin Γ w0 S0 X fn b cs res (lone (b.at a (items todo)) cs w)

def resF (tmps : Array Value) : ResultVar → Sem Value
  | .tmp t => pure (tmps.getD t undef)
  | .cell c t => do loadVar t (← asAddr (tmps.getD c undef))
theorem results_eq (fn : Func) (tmps : Array Value) : results fn tmps = (do
    let vs ← fn.results.mapM (resF tmps)
    pure (if h : vs.size = 1 then vs[0] else .tuple vs)) := by
  unfold results
  congr 2
theorem resL_ok (hP : tabOk Γ.P = true) {n : Nat} {st : St} {a : Act} (h : StOK Γ w0 S0 X n st a w S σ) : ∀ (rs : List ResultVar) (l : List AV), resL Γ.P rs st = some l →
    ∃ vs, (rs.mapM (resF a.tmps)).run Γ.P w = .ok vs w ∧ RepAs Γ.P w S σ st.ob l vs
  | [], l, hr => by
    simp only [resL] at hr; cases hr
    exact ⟨[], by simp, by simp only [RepAs]⟩
  | .tmp t :: r, l, hr => by
    simp only [resL] at hr
    obtain ⟨l', h1, rfl⟩ := Option.map_eq_some_iff.1 hr
    obtain ⟨vs, g1, g2⟩ := resL_ok hP h r l' h1
    refine ⟨_ :: vs, ?_, by simp only [RepAs]; exact ⟨_, _, rfl, h.tm t, g2⟩⟩
    simp only [List.mapM_cons, resF, Sem.run_bind, Sem.run_pure, Result.andThen_ok, g1]
  | .cell c t :: r, l, hr => by
    simp only [resL] at hr
    split at hr
    · rename_i j u hj
      split at hr
      · rename_i tb v hob
        obtain ⟨hf, hr2⟩ := cond_some hr
        obtain ⟨l', h1, rfl⟩ := Option.map_eq_some_iff.1 hr2
        obtain ⟨vs, g1, g2⟩ := resL_ok hP h r l' h1
        have hp := h.tm c
        rw [hj] at hp
        simp only [RepA] at hp
        obtain ⟨_, b, off, hv, hp⟩ := hp
        obtain ⟨rfl, ho⟩ := hp _ _ hob
        simp only [offP] at ho
        obtain ⟨_, _, ho⟩ := Option.map_eq_some_iff.1 ho
        cases ho
        have hO := h.mem.objs j _ hob
        simp only [ObjAt] at hO
        obtain ⟨cs, el, fr, hb, _, _, hl, ⟨_, u, hu, hrep⟩, _, _⟩ := hO
        have hrun := loadVar_run (b := (σ j).1) (o := 0) hP hf hrep (range_of_block (A := []) (B := []) hb (by simp [hu]) rfl)
        refine ⟨_ :: vs, ?_, by simp only [RepAs]; exact ⟨_, _, rfl, hrep, g2⟩⟩
        simp only [List.mapM_cons, resF, Sem.run_bind, hv, asAddr, Sem.run_pure, Result.andThen_ok, hrun, g1]
      · exact absurd hr (by simp)
    · exact absurd hr (by simp)
theorem oneR_ok {l : List AV} {vs : List Value} {ob : Objs} {w : World} {S : Addr → Prop} {σ : Loc} {P : Program} (g4 : RepAs P w S σ ob l vs) : RepA P w S σ ob (oneR l) (if h : vs.toArray.size = 1 then vs.toArray[0] else .tuple vs.toArray) := by
  rcases l with _ | ⟨x, _ | ⟨y, r⟩⟩
  · simp only [RepAs] at g4; subst g4
    simp only [oneR, RepA]
    exact ⟨[], by simp, by simp only [RepAs]⟩
  · simp only [RepAs] at g4
    obtain ⟨v, _, rfl, g5, rfl⟩ := g4
    simpa [oneR] using g5
  · have g4' := g4
    simp only [RepAs] at g4
    obtain ⟨v, _, rfl, g5, v', vs', rfl, g6⟩ := g4
    simp only [oneR, RepA]
    exact ⟨v :: v' :: vs', by simp, g4'⟩
theorem renL_one (g : Nat → Nat) : ∀ l : List AV, renA g (oneR l) = oneR (renL g l)
  | [] => by simp [oneR, renA, renL]
  | [a] => by simp [oneR, renL]
  | a :: b :: r => by simp [oneR, renA, renL]
theorem fin_ok (hP : tabOk Γ.P = true) {fn : Func} {n m : Nat} (hm : X.roots.length = m) {st : St} {a : Act} (h : StOK Γ w0 S0 X n st a w S σ) {res : AV × Objs} (hf : fin Γ.P m fn.results.toList st = some res) :
    ∃ S' v, (results fn a.tmps).run Γ.P w = .ok v w ∧ ∃ σ', MemOK Γ w0 S0 X w S' σ' res.2 ∧ RepA Γ.P w S' σ' res.2 res.1 v := by
  unfold fin at hf
  split at hf
  · rename_i l hl
    obtain ⟨vs, g1, g2⟩ := resL_ok hP h _ _ hl
    cases hz : frzL l st.ob with
    | mk l' ob1 =>
      rw [hz] at hf
      simp only at hf
      generalize hord : reach ob1 400 (idsOb ob1 (List.range m) ++ idsL l') (List.range m) = ord at hf
      obtain ⟨hcl, hf⟩ := cond_some hf
      cases hf
      obtain ⟨S1, t1, g3⟩ := frzL_ok hP l h.mem hz g2
      have hrun : (results fn a.tmps).run Γ.P w = .ok (if h : vs.toArray.size = 1 then vs.toArray[0] else .tuple vs.toArray) w := by
        rw [results_eq]
        rw [Array.mapM_eq_mapM_toList]
        simp only [Sem.run_bind, Sem.run_map, g1, Result.andThen_ok, Sem.run_pure]
      obtain ⟨hmem, hmv⟩ := order_ok t1.1 hm hord hcl
      obtain ⟨_, hin, _⟩ := clsd_spec hcl
      refine ⟨S1, _, hrun, _, hmem, ?_⟩
      simp only [renL_one]
      exact oneR_ok (RepAs.ren _ _ (fun j hj => hmv j (hin j hj)) g3)
  · exact absurd hf (by simp)
theorem exitA_ok {id : Nat} : ∀ {k k' : List AI}, exitA id k = some k' → exitTo id (items k) = some (items k')
  | [], k', h => by simp [exitA] at h
  | .blk i :: k, k', h => by
    simp only [exitA] at h
    simp only [items, List.map_cons, AI.item, exitTo]
    rcases cond_cases h with ⟨hb, h2⟩ | ⟨hb, h2⟩
    · obtain rfl := beq_id hb
      clear h
      cases h2
      simp
    · have : (i == id) = false := by
        cases hc : (i == id) with
        | false => rfl
        | true => simp only [beq_iff_eq] at hc; subst hc; simp at hb
      rw [if_neg (by simpa using this)]
      exact exitA_ok h2
  | .c _ :: k, k', h => by simp only [exitA] at h; simp only [items, List.map_cons, AI.item, exitTo]; exact exitA_ok h
  | .j _ :: k, k', h => by simp only [exitA] at h; simp only [items, List.map_cons, AI.item, exitTo]; exact exitA_ok h
  | .lp _ :: k, k', h => by simp only [exitA] at h; simp only [items, List.map_cons, AI.item, exitTo]; exact exitA_ok h
  | .sc _ :: k, k', h => by simp only [exitA] at h; simp only [items, List.map_cons, AI.item, exitTo]; exact exitA_ok h

theorem step_scope' {P : Program} {b : Frame} {a : Act} {k : List Item} {cs : List Frame} {w : World} {c : Code} : step P (lone (b.at a (.code (.scope c) :: k)) cs w) = .next (lone (b.at a (.code c :: .inScope c :: k)) cs w) :=
  step_lone_go (by simp [stepG, stepG.exec, Frame.at])
theorem step_inScope' {P : Program} {b : Frame} {a : Act} {k : List Item} {cs : List Frame} {w : World} {c : Code} : step P (lone (b.at a (.inScope c :: k)) cs w) = .next (lone (b.at a k) cs w) :=
  step_lone_go (by simp [stepG, stepG.exec, Frame.at])

/-- what the handle says of labels is so -/
def LabsOK (Γ : Ctx) (w0 : World) (S0 : Addr → Prop) (X : XB) (fn : Func) (lab : Lab) : Prop := ∀ todo st res, lab todo st = some res → GoodAt Γ w0 S0 X fn (enterL todo) st res
theorem ev_ok (hP : tabOk Γ.P = true) (hZ : zeroOk Γ.P = true) {call : Handle} (hc : CallsOK Γ call) {f : FuncId} {fn : Func} (hX : X.roots.length = rootsOf Γ.roots f) (hf : Γ.P.funcs[f]? = some fn) {lab : Lab} (hl : LabsOK Γ w0 S0 X fn lab) :
    ∀ (n : Nat) (todo : List AI) (st : St) (res : AV × Objs), ev Γ call lab f fn.results.toList n todo st = some res → GoodAt Γ w0 S0 X fn todo st res
  | 0, todo, st, res, h => by simp [ev] at h
  | n + 1, todo, st, res, h => by
    have ih := ev_ok hP hZ hc hX hf hl n
    intro a w S σ hst b cs
    have ends : ∀ {todo' : List Item}, fin Γ.P (rootsOf Γ.roots f) fn.results.toList st = some res → Steps Γ.P (lone (b.at a (items todo)) cs w) (lone { b.at a todo' with mode := .returning } cs w) → Fin Γ w0 S0 X fn b cs res (lone (b.at a (items todo)) cs w) := by
      intro todo' hfin hs
      obtain ⟨S', v, g1, g2⟩ := fin_ok hP hX hst hfin
      exact ⟨a, w, todo', S', v, hs, hst.defers, g1, g2⟩
    have atLab : ∀ {l : List Nat} {t : List AI}, (bif closedR (rootsOf Γ.roots f) l st then lab t (restrict (rootsOf Γ.roots f) l st) else none) = some res → ∀ {m : Machine}, Steps Γ.P m (lone (b.at a (items (enterL t))) cs w) → Fin Γ w0 S0 X fn b cs res m := by
      intro l t hlab m hs
      obtain ⟨h1, h2⟩ := cond_some hlab
      obtain ⟨σ', hst'⟩ := restrict_ok hX hst h1
      exact Fin.of_steps hs (hl _ _ _ h2 a w S σ' hst' b cs)
    cases todo with
    | nil =>
      simp only [ev] at h
      exact ends h (.one step_end)
    | cons i k =>
      cases i with
      | blk id =>
        simp only [ev] at h
        exact Fin.of_steps (.one step_inBlock) (ih k st res h a w S σ hst b cs)
      | sc c =>
        simp only [ev] at h
        exact Fin.of_steps (.one step_inScope') (ih k st res h a w S σ hst b cs)
      | lp c =>
        simp only [ev] at h
        split at h
        · exact atLab h (.one step_inLoop)
        · exact absurd h (by simp)
      | j c =>
        simp only [ev] at h
        split at h
        · exact atLab h (Steps.refl _ _)
        · exact absurd h (by simp)
      | c x =>
        simp only [ev] at h
        cases x <;> simp only at h <;> (try exact absurd h (by simp))
        case ret => exact ends h (.one step_ret)
        case skip => exact Fin.of_steps (.one step_skip) (ih k st res h a w S σ hst b cs)
        case label l => exact Fin.of_steps (.one step_label) (ih k st res h a w S σ hst b cs)
        case seq x y =>
          split at h
          · exact Fin.of_steps (.one step_seq) (ih _ st res h a w S σ hst b cs)
          · exact Fin.of_steps (.one step_seq) (ih _ st res h a w S σ hst b cs)
        case cond c x y =>
          split at h
          · rename_i t ht
            have hv := evo_ok hst c
            rw [ht] at hv
            simp only [RepA] at hv
            rcases cond_cases h with ⟨rfl, h⟩ | ⟨rfl, h⟩
            · exact Fin.of_steps (.one (step_cond hv)) (ih _ st res h a w S σ hst b cs)
            · exact Fin.of_steps (.one (step_cond hv)) (ih _ st res h a w S σ hst b cs)
          · exact absurd h (by simp)
        case block id c => exact Fin.of_steps (.one step_block) (ih _ st res h a w S σ hst b cs)
        case scope c => exact Fin.of_steps (.one step_scope') (ih _ st res h a w S σ hst b cs)
        case loop c =>
          split at h
          · exact atLab h (.one step_loop)
          · exact absurd h (by simp)
        case exit id =>
          split at h
          · rename_i k' hk
            exact Fin.of_steps (.one (step_exit (exitA_ok hk))) (ih _ st res h a w S σ hst b cs)
          · exact absurd h (by simp)
        case region id ops draw =>
          obtain ⟨hd, h8⟩ := cond_some h
          have hd' : ∀ o ∈ ops.toList, ∀ d, o.dst = some d → d < fn.ntmps := by
            intro o ho d hod
            unfold dstOk at hd
            rw [hf] at hd
            have := List.all_eq_true.1 hd o ho
            rw [hod] at this
            simpa [Nat.blt_eq] using this
          rcases cond_cases h8 with ⟨rfl, h9⟩ | ⟨rfl, h9⟩
          · obtain ⟨hcond, h9⟩ := cond_some h9
            simp only [Bool.and_eq_true] at hcond
            have t0 : Trans Γ w0 S0 X w S σ st.ob { w with drawn := w.drawn + 1 } S σ st.ob := hst.mem.same rfl
            have hst0 : StOK Γ w0 S0 X fn.ntmps st a { w with drawn := w.drawn + 1 } S σ := ⟨t0.1, fun t => t0.2 _ _ (hst.tm t), hst.size, hst.defers⟩
            obtain ⟨S2, hst1⟩ := frzT_ok hP (preAt Γ.pre f id) hst0
            have hw := drawn_ok (Q := fun e a' w' => e = .normal ∧ Fin Γ w0 S0 X fn b cs res (lone (b.at a' (items k)) cs w')) hP hZ hc (fun st' a' w' S' σ' hK hst' => ⟨rfl, ih k st' res hK a' w' S' σ' hst' b cs⟩) hd' hcond.1 hst1 h9
            obtain ⟨e, a', w', ⟨rfl, hfin⟩, harr⟩ := wp_region_any (id := id) hcond.2 hw b (items k) cs
            exact Fin.of_steps harr hfin
          · have hw := stepOps_ok (Q := fun e a' w' => e = .normal ∧ Fin Γ w0 S0 X fn b cs res (lone (b.at a' (items k)) cs w')) hP hZ hc (fun st' a' w' S' σ' hK hst' => ⟨rfl, ih k st' res hK a' w' S' σ' hst' b cs⟩) hd' ops.toList 0 rfl st a w S σ hst h9
            obtain ⟨e, a', w', ⟨rfl, hfin⟩, harr⟩ := wp_region hw b (items k) cs
            exact Fin.of_steps harr hfin
end
end Go.Proofs.YtjbemleloffafaaDoor.V
