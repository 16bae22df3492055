/- Operations: what the abstract machine does, the model does. Part one: values, variables. -/
import Derived.Test.YtjbemleloffafaaDoorFrI
namespace Go.Proofs.YtjbemleloffafaaDoor.V
open Go
set_option linter.unusedVariables false
set_option linter.unusedSimpArgs false

/-- an operation, or a call, comes to a value -/
def UponOK (P : Program) (Q : Value → World → Prop) : Result Next → Prop
  | .ok (.value v) w' => Q v w'
  | .ok .skip w' => Q undef w'
  | .ok (.enter f args) w' => Calls P f args w' fun e w'' => ∃ v, e = .returned v ∧ Q v w''
  | _ => False
theorem UponOK.mono {P : Program} {Q Q' : Value → World → Prop} {r : Result Next} (h : UponOK P Q r) (hq : ∀ v w, Q v w → Q' v w) : UponOK P Q' r := by
  unfold UponOK at *
  split at h
  · exact hq _ _ h
  · exact hq _ _ h
  · exact h.mono fun e w'' ⟨v, he, hv⟩ => ⟨v, he, hq _ _ hv⟩
  · exact h
theorem upon_of {P : Program} {Q : Value → World → Prop} {r : Result Next} {o : Oper} {a : Act} {next : Act → World → Prop} {Q' : Exit → Act → World → Prop} (h : UponOK P Q r)
    (hn : ∀ v w', Q v w' → next (a.put o.dst v) w') : o.upon P a next Q' r := by
  unfold UponOK at h
  split at h
  · exact hn _ _ h
  · exact hn _ _ h
  · refine h.mono fun e w'' ⟨v, he, hv⟩ => ?_
    subst he
    exact hn _ _ hv
  · exact h.elim

section
variable {Γ : Ctx} {w0 : World} {S0 : Addr → Prop} {X : XB} {w w' : World} {S S' : Addr → Prop} {σ σ' : Loc} {ob ob' : Objs} {R : Type}

def OpGood (Γ : Ctx) (w0 : World) (S0 : Addr → Prop) (X : XB) (w : World) (S : Addr → Prop) (σ : Loc) (ob : Objs) (av : AV) (ob' : Objs) (s : Sem Next) : Prop :=
  UponOK Γ.P (fun v w' => ∃ S' σ', Trans Γ w0 S0 X w S σ ob w' S' σ' ob' ∧ RepA Γ.P w' S' σ' ob' av v) (s.run Γ.P w)
theorem good_val {av : AV} {s : Sem Next} {v : Value} (hr : s.run Γ.P w = .ok (.value v) w') (ht : Trans Γ w0 S0 X w S σ ob w' S' σ' ob') (hv : RepA Γ.P w' S' σ' ob' av v) :
    OpGood Γ w0 S0 X w S σ ob av ob' s := by unfold OpGood; rw [hr]; exact ⟨S', σ', ht, hv⟩
theorem good_skip {s : Sem Next} (hr : s.run Γ.P w = .ok .skip w') (ht : Trans Γ w0 S0 X w S σ ob w' S' σ' ob') :
    OpGood Γ w0 S0 X w S σ ob .undef ob' s := by unfold OpGood; rw [hr]; exact ⟨S', σ', ht, by simp only [RepA]⟩
theorem good_same (hM : MemOK Γ w0 S0 X w S σ ob) {av : AV} {s : Sem Next} {v : Value} (hr : s.run Γ.P w = .ok (.value v) w) (hv : RepA Γ.P w S σ ob av v) :
    OpGood Γ w0 S0 X w S σ ob av ob s := good_val hr (Trans.refl hM) hv
/-- a value's operation -/
theorem run_v {s : Sem Value} {v : Value} (h : s.run Γ.P w = .ok v w') : (do pure (.value (← s)) : Sem Next).run Γ.P w = .ok (.value v) w' := by
  simp [h]
theorem run_u {s : Sem Unit} (h : s.run Γ.P w = .ok () w') : (do s; pure .skip : Sem Next).run Γ.P w = .ok .skip w' := by
  simp [h]

/-! ### what a residual says -/
theorem dAgg_some {x : D} {K : List D → Option R} {r : R} (h : dAgg x K = some r) : ∃ fs, x = .agg fs ∧ K fs = some r := by
  cases x <;> simp [dAgg] at h; exact ⟨_, rfl, h⟩
theorem lGet_some {α : Type} {l : List α} {i : Nat} {K : α → Option R} {r : R} (h : lGet l i K = some r) : ∃ a, l[i]? = some a ∧ K a = some r := by
  unfold lGet at h
  cases hl : l[i]? with
  | none => simp [hl] at h
  | some a => rw [hl] at h; exact ⟨a, rfl, h⟩
theorem idx_some {α : Type} {l : List α} {n : Int} {K : α → Option R} {r : R} (h : idx l n K = some r) : 0 ≤ n ∧ ∃ a, l[n.toNat]? = some a ∧ K a = some r := by
  obtain ⟨h1, h2⟩ := cond_some h
  exact ⟨of_decide_eq_true h1, lGet_some h2⟩
theorem openL_id {f : TypeId → D → (D → Option R) → Option R} (hf : ∀ t x K r, f t x K = some r → K x = some r) : ∀ (ts : List TypeId) (ys : List D) (K : List D → Option R) (r : R),
    openL f ts ys K = some r → K ys = some r
  | [], ys, K, r, h => by cases ys <;> simp [openL, lNil] at h; exact h
  | t :: ts, ys, K, r, h => by
    cases ys with
    | nil => simp [openL, lCons] at h
    | cons y q =>
      simp only [openL, lCons] at h
      have h1 := hf _ _ _ _ h
      exact openL_id hf ts q _ r h1
theorem openD_id {P : Program} : ∀ (n : Nat) (t : TypeId) (x : D) (K : D → Option R) (r : R), openD P n t x K = some r → K x = some r
  | 0, t, x, K, r, h => by simp [openD] at h
  | n + 1, t, x, K, r, h => by
    unfold openD at h
    split at h
    · rename_i k hd
      cases x <;> simp [dInt] at h
      obtain ⟨h1, h2⟩ := cond_some h
      obtain rfl := kEq_iff.1 h1
      exact h2
    · cases x <;> simp [dBool] at h; exact h
    · cases x <;> simp [dStr] at h; exact h
    · cases x <;> simp [dSlice] at h; exact h
    · obtain ⟨fs, rfl, h⟩ := dAgg_some h
      exact openL_id (fun t x K r => openD_id n t x K r) _ _ _ _ h
    · obtain ⟨fs, rfl, h⟩ := dAgg_some h; exact h
    · exact absurd h (by simp)
theorem openD_has {P : Program} {n : Nat} {t : TypeId} {x : D} {K : D → Option R} {r : R} (h : openD P n t x K = some r) : ∃ d, und P t = some d := by
  cases n with
  | zero => simp [openD] at h
  | succ n =>
    unfold openD at h
    cases hd : ds P t <;> simp only [hd] at h <;> first | (simp at h; done) | exact ⟨_, ds_some hd (by simp)⟩

theorem CellsAt.range {b o : Nat} {vs : List Value} (h : CellsAt w S b o vs) : w.rangeAt b o vs := fun j v hv => (h j v hv).1
theorem RepT.back {P : Program} (hP : tabOk P = true) {x : D} {t : TypeId} {vs : List Value} (h : RepT P w S x (underId P t) vs) (ht : ∃ d, und P t = some d) : RepT P w S x t vs := by
  obtain ⟨d, hd⟩ := ht
  exact h.ty (hd.trans (underId_spec hP hd).1.symm)

/-- a block's cells, as a range -/
theorem range_of_block {b o : Nat} {cs A V B : List Value} {el : TypeId} {fr : Nat × Nat} (hb : w.heap[b]? = some (.cells cs.toArray el fr)) (hc : cs = A ++ V ++ B) (ho : A.length = o) : w.rangeAt b o V := by
  intro j v hv
  have hj := getL hv
  simp only [World.cell?, hb]
  simp only [Option.isSome_none, Bool.false_eq_true, if_false]
  subst hc; subst ho
  simp only [List.getElem?_toArray]
  rw [List.append_assoc, List.getElem?_append_right (by omega), show A.length + j - A.length = j by omega, List.getElem?_append_left hj, hv]

/-! ### one operation after another -/
theorem load_ok (hP : tabOk Γ.P = true) (hM : MemOK Γ w0 S0 X w S σ ob) {t : TypeId} {a : AV} {v : Value} {K : AV → Objs → Option R} {r : R} (ha : RepA Γ.P w S σ ob a v)
    (h : opLoad Γ.P t a ob K = some r) :
    ∃ av, K av ob = some r ∧ ∃ cv, RepA Γ.P w S σ ob av cv ∧ (Instr.loadAt t v).run Γ.P w = .ok cv w := by
  have runAt : ∀ {b o : Nat} {cv : Value}, (loadVar t ⟨b, o, none⟩).run Γ.P w = .ok cv w → (Instr.loadAt t (.pointer (some ⟨b, o, none⟩))).run Γ.P w = .ok cv w := by
    intro b o cv h
    simp [Instr.loadAt, Instr.sureAddr, h]
  cases a <;> simp only [opLoad] at h
  case vp u x =>
    obtain ⟨h1, h2⟩ := cond_some h
    obtain rfl := beq_id h1
    have hh := openD_has h2
    have hk := openD_id _ _ _ _ _ h2
    simp only [RepA] at ha
    obtain ⟨b, o, vs, rfl, hc, hr⟩ := ha
    have hr := hr.back hP hh
    exact ⟨_, hk, _, fromD_ok hP hr, runAt (loadD_run hP hr hc.range)⟩
  case ptr j p u =>
    obtain ⟨h1, h2⟩ := cond_some h
    obtain rfl := beq_id h1
    split at h2
    · rename_i tb c hob
      simp only [RepA] at ha
      obtain ⟨_, b, off, rfl, ha⟩ := ha
      obtain ⟨rfl, ho⟩ := ha _ _ hob
      have hO := hM.objs j _ hob
      simp only [ObjAt] at hO
      obtain ⟨vs, el, fr, hb, _, _, hl, hbox, _, _⟩ := hO
      obtain ⟨hf, v, hv, hrep⟩ := hbox
      · obtain ⟨res, A, V, B, hK, hvs, hA, hF⟩ := navA_ok hP p c tb vs off _ _ r ⟨hf, v, hv, hrep⟩ ho h2
        have hrange := range_of_block hb hvs hA
        cases res with
        | inl a =>
          simp only at hK
          obtain ⟨g1, hK⟩ := cond_some hK
          obtain ⟨_, v1, hv1, g2⟩ := hF
          exact ⟨_, hK, v1, g2, runAt (loadVar_run hP g1 g2 (by rw [hv1]; exact hrange))⟩
        | inr y =>
          simp only at hK
          have hh := openD_has hK
          have hk := openD_id _ _ _ _ _ hK
          have hF : RepT Γ.P w S y (underId Γ.P t) V := hF
          have hr := hF.back hP hh
          exact ⟨_, hk, _, fromD_ok hP hr, runAt (loadD_run hP hr hrange)⟩
    · exact absurd h2 (by simp)
  case ap j i p u =>
    obtain ⟨h1, h2⟩ := cond_some h
    obtain rfl := beq_id h1
    split at h2
    · rename_i e xs fz hob
      obtain ⟨x, hx, h2⟩ := lGet_some h2
      simp only [RepA] at ha
      obtain ⟨_, b, off, rfl, ha⟩ := ha
      obtain ⟨rfl, o, ho, rfl⟩ := ha _ _ _ hob
      have hO := hM.objs j _ hob
      simp only [ObjAt] at hO
      obtain ⟨cs, el, fr, hb, _, _, hl, hrow, _, _⟩ := hO
      obtain ⟨vs, hr1, hr2⟩ := hrow.get i hx
      obtain ⟨y, A, V, B, hK, rfl, hA, hy, _⟩ := navD_ok hP p x e vs o _ _ r hr2 ho h2
      have hh := openD_has hK
      have hk := openD_id _ _ _ _ _ hK
      have hr := hy.back hP hh
      refine ⟨_, hk, _, fromD_ok hP hr, runAt (loadD_run hP hr ?_)⟩
      intro k v hv
      have hk' := getL hv
      have := hr1 (o + k) v (by
        rw [← hA, List.append_assoc, List.getElem?_append_right (by omega), show A.length + k - A.length = k by omega, List.getElem?_append_left hk', hv])
      rw [show i * Γ.P.cellsOf e + o + k = 0 + i * Γ.P.cellsOf e + (o + k) by omega]
      exact this
    · exact absurd h2 (by simp)
  all_goals exact absurd h (by simp)
end
end Go.Proofs.YtjbemleloffafaaDoor.V
