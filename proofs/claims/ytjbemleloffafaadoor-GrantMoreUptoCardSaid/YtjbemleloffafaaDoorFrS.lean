/- Operations. Part ten: one operation, whatever it is. -/
import Derived.Test.YtjbemleloffafaaDoorFrAE
namespace Go.Proofs.YtjbemleloffafaaDoor.V
open Go
set_option linter.unusedVariables false
set_option linter.unusedSimpArgs false

section
variable {Γ : Ctx} {w0 : World} {S0 : Addr → Prop} {X : XB} {w w' : World} {S S' : Addr → Prop} {σ σ' : Loc} {ob ob' : Objs} {R : Type}

def noLoc : Loc := fun _ => (0, 0)
/-- what a call leaves: what was there is there; new blocks, of which some are data -/
structure Left (Γ : Ctx) (w : World) (S : Addr → Prop) (w' : World) (S' : Addr → Prop) : Prop where
  same : ∀ b, b < w.heap.size → w'.heap[b]? = w.heap[b]?
  grow : w.heap.size ≤ w'.heap.size
  more : ∀ a, S a → S' a
  new : ∀ a, S' a → S a ∨ (w.heap.size ≤ a.block ∧ a.block < w'.heap.size)
  env : w'.os = w.os ∧ w'.output = w.output
/-- a function, called with data, comes to this -/
def Ret (Γ : Ctx) (g : FuncId) (args : List AV) (r : AV) : Prop :=
  ∀ (w : World) (S : Addr → Prop) (vals : List Value), (∀ a, S a → a.block < w.heap.size) → GlobOK Γ w S → RepAs Γ.P w S noLoc [] args vals →
    UponOK Γ.P (fun v w' => ∃ S', Left Γ w S w' S' ∧ RepA Γ.P w' S' noLoc [] r v) ((callFunc g vals.toArray).run Γ.P w)
/-- a function, called with values and objects, comes to this -/
def RetX (Γ : Ctx) (g : FuncId) (args : List AV) (obs : Objs) (r : AV) (obs' : Objs) : Prop :=
  ∀ (w : World) (S : Addr → Prop) (σ : Loc) (X : XB) (vals : List Value), X.roots.length = rootsOf Γ.roots g → MemOK Γ w S X w S σ obs → RepAs Γ.P w S σ obs args vals →
    UponOK Γ.P (fun v w' => ∃ S' σ', MemOK Γ w S X w' S' σ' obs' ∧ Keeps w S w' S' ∧ RepA Γ.P w' S' σ' obs' r v) ((callFunc g vals.toArray).run Γ.P w)
/-- what the handle says of calls is so -/
def CallsOK (Γ : Ctx) (call : Handle) : Prop := ∀ g args obs r obs', call g args obs = some (true, r, obs') → RetX Γ g args obs r obs'

theorem nil_stays (σ σ' : Loc) : Stays σ [] σ' [] := ⟨Nat.le_refl _, fun j hj => by simp at hj⟩
theorem RepAs.keep' {P : Program} (k : Keeps w S w' S') (st : Stays σ ob σ' ob') : ∀ {l : List AV} {vs : List Value}, RepAs P w S σ ob l vs → RepAs P w' S' σ' ob' l vs
  | [], vs, h => by simpa only [RepAs] using h
  | a :: r, vs, h => by
    simp only [RepAs] at h ⊢
    obtain ⟨v, vs', rfl, h1, h2⟩ := h
    exact ⟨v, vs', rfl, RepA.keep k st a v h1, RepAs.keep' k st h2⟩
theorem Ret.x {g : FuncId} {args : List AV} {r : AV} (h : Ret Γ g args r) : RetX Γ g args [] r [] := by
  intro w S σ X vals _ hM ha
  refine (h w S vals hM.sin hM.glob (ha.keep' (Keeps.refl w S) (nil_stays σ noLoc))).mono ?_
  rintro v w' ⟨S', hl, hr⟩
  have t := hM.more hl.same hl.grow hl.more hl.new hl.env
  exact ⟨S', σ, t.1, t.3, RepA.keep (Keeps.refl w' S') (nil_stays noLoc σ) r v hr⟩
theorem mem_nil (hS : ∀ a, S a → a.block < w.heap.size) (hG : GlobOK Γ w S) : MemOK Γ w S ⟨[], fun _ => False⟩ w S noLoc [] := by
  refine { objs := ?_, apart := ?_, own := ?_, old := fun _ _ _ => rfl, grow := Nat.le_refl _, s0 := fun _ h => h, snew := fun _ h => .inl h, sin := hS, glob := hG, env := ⟨rfl, rfl⟩, kept := Keeps.refl w S, root := ?_ }
  · intro j o h; simp at h
  · intro j j' o o' h; simp at h
  · intro j o h; simp at h
  · intro k p h; simp at h
theorem RetX.ret {g : FuncId} {args : List AV} {r : AV} (h : RetX Γ g args [] r []) (h0 : rootsOf Γ.roots g = 0) : Ret Γ g args r := by
  intro w S vals hS hG ha
  refine (h w S noLoc ⟨[], fun _ => False⟩ vals (by rw [h0]; rfl) (mem_nil hS hG) ha).mono ?_
  rintro v w' ⟨S', σ', hM, hk, hr⟩
  refine ⟨S', ⟨fun b hb => hM.old b hb (fun h => h), hM.grow, hM.s0, fun a ha => ?_, hM.env⟩, RepA.keep (Keeps.refl w' S') (nil_stays σ' noLoc) r v hr⟩
  rcases hM.snew a ha with h | h | h
  · exact .inl h
  · exact h.elim
  · exact .inr ⟨h, hM.sin a ha⟩

theorem openA_ok {P : Program} {t : TypeId} {a : AV} {K : AV → Option R} {r : R} (h : openA P t a K = some r) :
    ∃ a', K a' = some r ∧ ∀ {w : World} {S : Addr → Prop} {σ : Loc} {ob : Objs} {v : Value}, RepA P w S σ ob a v → RepA P w S σ ob a' v := by
  unfold openA at h
  split at h
  · cases a <;> simp only [aInt] at h
    case i k n =>
      obtain ⟨h1, h2⟩ := cond_some h
      obtain rfl := kEq_iff.1 h1
      exact ⟨_, h2, fun hr => by simpa only [RepA] using hr⟩
    all_goals exact absurd h (by simp)
  · cases a <;> simp only [aBool] at h
    case b x => exact ⟨_, h, fun hr => by simpa only [RepA] using hr⟩
    all_goals exact absurd h (by simp)
  · cases a <;> simp only [aStr] at h
    case s x => exact ⟨_, h, fun hr => by simpa only [RepA] using hr⟩
    all_goals exact absurd h (by simp)
  · cases a <;> simp only [aSl] at h
    case snil => exact ⟨_, h, fun hr => by
      simp only [RepA] at hr ⊢
      exact ⟨none, 0, hr, ⟨rfl, rfl, rfl⟩, by simp⟩⟩
    case sl e c xs =>
      obtain ⟨h1, h2⟩ := cond_some h
      obtain rfl := beq_id h1
      exact ⟨_, h2, fun hr => by simpa only [RepA] using hr⟩
    all_goals exact absurd h (by simp)
  · cases a <;> simp only [aD] at h
    case d u x =>
      obtain ⟨h1, h2⟩ := cond_some h
      obtain rfl := beq_id h1
      exact ⟨_, openD_id _ _ _ _ _ h2, fun hr => by simpa only [RepA] using hr⟩
    all_goals exact absurd h (by simp)
  · cases a <;> simp only [aD] at h
    case d u x =>
      obtain ⟨h1, h2⟩ := cond_some h
      obtain rfl := beq_id h1
      obtain ⟨ys, rfl, h3⟩ := dAgg_some h2
      exact ⟨_, h3, fun hr => by simpa only [RepA] using hr⟩
    all_goals exact absurd h (by simp)
  · cases a <;> simp only [aPtr] at h
    case pnil => exact ⟨_, h, fun hr => hr⟩
    case ptr j p u =>
      obtain ⟨_, h2⟩ := cond_some h
      exact ⟨_, h2, fun hr => hr⟩
    all_goals exact absurd h (by simp)
  · cases a <;> simp only [aUnsafe] at h
    case ptr j p u => exact ⟨_, h, fun hr => hr⟩
    all_goals exact absurd h (by simp)
  · cases a <;> simp only [aNone] at h
    case undef => exact ⟨_, h, fun hr => hr⟩
    case err x => exact ⟨_, h, fun hr => hr⟩
    all_goals exact absurd h (by simp)
  · exact absurd h (by simp)
theorem openAs_ok {P : Program} : ∀ {ts : List TypeId} {l : List AV} {K : List AV → Option R} {r : R}, openAs P ts l K = some r →
    ∃ l', K l' = some r ∧ ∀ {w : World} {S : Addr → Prop} {σ : Loc} {ob : Objs} {vs : List Value}, RepAs P w S σ ob l vs → RepAs P w S σ ob l' vs
  | [], l, K, r, h => by
    cases l with
    | nil => exact ⟨[], h, fun hr => by simpa only [RepAs] using hr⟩
    | cons _ _ => simp [openAs, lNil] at h
  | t :: ts, l, K, r, h => by
    cases l with
    | nil => simp [openAs, lCons] at h
    | cons a q =>
      simp only [openAs, lCons] at h
      obtain ⟨a', h1, h2⟩ := openA_ok h
      obtain ⟨q', h3, h4⟩ := openAs_ok h1
      refine ⟨_, h3, fun hr => ?_⟩
      simp only [RepAs] at hr ⊢
      obtain ⟨v, vs', rfl, g1, g2⟩ := hr
      exact ⟨v, vs', rfl, h2 g1, h4 g2⟩
theorem openR_ok {P : Program} {t : TypeId} {a : AV} {K : AV → Option R} {r : R} (h : openR P t a K = some r) :
    ∃ a', K a' = some r ∧ ∀ {w : World} {S : Addr → Prop} {σ : Loc} {ob : Objs} {v : Value}, RepA P w S σ ob a v → RepA P w S σ ob a' v := by
  unfold openR at h
  split at h
  · cases a <;> simp only [aTuple] at h
    case tuple l =>
      obtain ⟨l', h1, h2⟩ := openAs_ok h
      refine ⟨_, h1, fun hr => ?_⟩
      simp only [RepA] at hr ⊢
      obtain ⟨vs, rfl, hr⟩ := hr
      exact ⟨vs, rfl, h2 hr⟩
    all_goals exact absurd h (by simp)
  · exact openA_ok h

theorem out_good {K : AV → Objs → Option R} {r : R} {s : Sem Value} (h : Out Γ w0 S0 X w S σ ob K r s) :
    ∃ av ob', K av ob' = some r ∧ OpGood Γ w0 S0 X w S σ ob av ob' (do pure (.value (← s))) := by
  obtain ⟨av, ob', hK, cv, w', S', σ', hr, ht, hv⟩ := h
  exact ⟨av, ob', hK, good_val (run_v hr) ht hv⟩
theorem same_good (hM : MemOK Γ w0 S0 X w S σ ob) {K : AV → Option R} {r : R} {s : Sem Value} (h : ∃ av, K av = some r ∧ ∃ cv, RepA Γ.P w S σ ob av cv ∧ s.run Γ.P w = .ok cv w) {K' : AV → Objs → Option R} (hk : ∀ a, K' a ob = K a) :
    ∃ av ob', K' av ob' = some r ∧ OpGood Γ w0 S0 X w S σ ob av ob' (do pure (.value (← s))) := by
  obtain ⟨av, hK, cv, hv, hr⟩ := h
  exact ⟨av, ob, by rw [hk]; exact hK, good_same hM (run_v hr) hv⟩

theorem RepAs.of_map {ρ : Operand → AV} {cρ : Operand → Value} (hρ : ∀ x, RepA Γ.P w S σ ob (ρ x) (cρ x)) : ∀ (l : List Operand), RepAs Γ.P w S σ ob (l.map ρ) (l.map cρ)
  | [] => by simp only [List.map_nil, RepAs]
  | x :: r => by simp only [List.map_cons, RepAs]; exact ⟨_, _, rfl, hρ x, RepAs.of_map hρ r⟩

theorem call_ok (hP : tabOk Γ.P = true) (hM : MemOK Γ w0 S0 X w S σ ob) {call : Handle} (hc : CallsOK Γ call) {t : TypeId} {g : AV} {vg : Value} {as : List AV} {vals : List Value} {K : AV → Objs → Option R} {r : R}
    (hg : RepA Γ.P w S σ ob g vg) (has : RepAs Γ.P w S σ ob as vals) (h : opCall Γ call t g as ob K = some r) :
    ∃ av ob', K av ob' = some r ∧ OpGood Γ w0 S0 X w S σ ob av ob' (do let d ← Deferred.ofValue vg vals.toArray; invoke d.target d.args) := by
  unfold opCall at h
  split at h
  · rename_i f
    simp only [RepA] at hg
    obtain ⟨cs, rfl, hcs⟩ := hg
    simp only [RepAs] at hcs
    subst hcs
    cases hfz : frzL as ob with
    | mk args ob1 =>
      rw [hfz] at h
      simp only at h
      generalize hrts : idsL args = rts at h
      generalize hord : reach ob1 400 (idsOb ob1 rts) rts = ord at h
      obtain ⟨hcl, h⟩ := cond_some h
      simp only [Bool.and_eq_true] at hcl
      obtain ⟨hcl, hn⟩ := hcl
      have hn := beq_id hn
      obtain ⟨hnd, hin, hob⟩ := clsd_spec hcl
      obtain ⟨S1, t1, ha1⟩ := frzL_ok hP as hM hfz has
      cases hcall : call f (renL (fun j => posN j ord) args) (ord.map fun j => renO (fun j => posN j ord) (ob1.getD j none)) with
      | none => rw [hcall] at h; exact absurd h (by simp)
      | some p =>
        obtain ⟨c, rv, obs⟩ := p
        rw [hcall] at h
        simp only at h
        obtain ⟨hsame, h9⟩ := cond_some h
        clear h
        simp only [Bool.and_eq_true] at hsame
        obtain ⟨hsame, rfl⟩ := hsame
        obtain ⟨av, hK, hopen⟩ := openR_ok h9
        have hpre : ∃ r, ord = rts ++ r := by rw [← hord]; exact reach_pre 400 _ _
        obtain ⟨hsub, hmv⟩ := sub_ok t1.1 hnd hob hpre
        have hargs : RepAs Γ.P w S1 _ _ (renL (fun j => posN j ord) args) vals := RepAs.ren args vals (fun j hj => hmv j (hin j (by rw [← hrts]; exact hj))) ha1
        have hret := hc f _ _ _ _ hcall w S1 _ _ vals (by simp only [subX, List.length_map]; exact hn.symm) hsub hargs
        refine ⟨av, _, hK, ?_⟩
        unfold OpGood
        have hrun : (do let d ← Deferred.ofValue (.func (.func f) #[] ([] : List Value).toArray) vals.toArray; invoke d.target d.args : Sem Next).run Γ.P w = (callFunc f vals.toArray).run Γ.P w := by
          simp [Deferred.ofValue, invoke]
        rw [hrun]
        refine hret.mono fun v w' ⟨S', σ2, hM2, hk, hv⟩ => ?_
        obtain ⟨σ'', ht, hren⟩ := back_ok t1.1 hnd hpre hM2 hk hsame
        exact ⟨S', σ'', t1.trans ht, hopen (hren _ _ hv)⟩
  · exact absurd h (by simp)

theorem builtin_ok (hP : tabOk Γ.P = true) (hZ : zeroOk Γ.P = true) (hM : MemOK Γ w0 S0 X w S σ ob) {b : Builtin} {ts : List TypeId} {as : List AV} {vals : List Value} {ty : TypeId} {cs : Array Bool} {K : AV → Objs → Option R} {r : R}
    (has : RepAs Γ.P w S σ ob as vals) (h : opBuiltin Γ.P b ts as ob K = some r) :
    ∃ av ob', K av ob' = some r ∧ OpGood Γ w0 S0 X w S σ ob av ob' (builtin b ts.toArray ty cs vals.toArray) := by
  cases b <;> try (simp only [opBuiltin] at h; exact absurd h (by simp))
  case len =>
    cases ts with
    | nil => simp [opBuiltin] at h
    | cons t ts =>
      cases as with
      | nil => simp [opBuiltin] at h
      | cons a as =>
        simp only [RepAs] at has
        obtain ⟨v, vs', rfl, h1, h2⟩ := has
        exact out_good (len_ok hM (ty := ty) h1 h)
  case append =>
    rcases ts with _ | ⟨t, _ | ⟨t', _ | ⟨t3, tr⟩⟩⟩ <;> rcases as with _ | ⟨s, _ | ⟨x, _ | ⟨y, yr⟩⟩⟩ <;> try (simp only [opBuiltin] at h; exact absurd h (by simp))
    simp only [RepAs] at has
    obtain ⟨v, _, rfl, h1, v', _, rfl, h2, rfl⟩ := has
    simp only [opBuiltin] at h
    split at h
    · rename_i e hd
      exact out_good (append_ok (ty := ty) hP hZ hM (.inl ⟨_, (und_lt (ds_some hd (by simp))).2⟩) h1 h2 h)
    · rename_i hd
      exact out_good (append_ok (ty := ty) hP hZ hM (.inr (und_lt (ds_some hd (by simp))).2) h1 h2 h)
    · exact absurd h (by simp)
  case min =>
    cases as with
    | nil => simp [opBuiltin] at h
    | cons a as =>
      simp only [RepAs] at has
      obtain ⟨v, vs', rfl, h1, h2⟩ := has
      cases a <;> try (simp only [opBuiltin] at h; exact absurd h (by simp))
      case i k x =>
        simp only [opBuiltin] at h
        split at h
        · rename_i y hy
          simp only [RepA] at h1; subst h1
          exact out_good (out_same hM h (s := Builtin.min_ ts.toArray ty (Value.int k x :: vs').toArray) (by simpa [Builtin.min_] using minL_run as vs' x y h2 hy) repI)
        · exact absurd h (by simp)
  case max =>
    cases as with
    | nil => simp [opBuiltin] at h
    | cons a as =>
      simp only [RepAs] at has
      obtain ⟨v, vs', rfl, h1, h2⟩ := has
      cases a <;> try (simp only [opBuiltin] at h; exact absurd h (by simp))
      case i k x =>
        simp only [opBuiltin] at h
        split at h
        · rename_i y hy
          simp only [RepA] at h1; subst h1
          exact out_good (out_same hM h (s := Builtin.max_ ts.toArray ty (Value.int k x :: vs').toArray) (by simpa [Builtin.max_] using maxL_run as vs' x y h2 hy) repI)
        · exact absurd h (by simp)
  case unsafeSliceData =>
    rcases as with _ | ⟨x, _ | ⟨y, yr⟩⟩ <;> try (simp only [opBuiltin] at h; exact absurd h (by simp))
    simp only [RepAs] at has
    obtain ⟨v, _, rfl, h1, rfl⟩ := has
    exact out_good (sliceData_ok hM h1 h)
  case unsafeString =>
    rcases ts with _ | ⟨t, _ | ⟨t', _ | ⟨t3, tr⟩⟩⟩ <;> rcases as with _ | ⟨s, _ | ⟨x, _ | ⟨y, yr⟩⟩⟩ <;> try (simp only [opBuiltin] at h; exact absurd h (by simp))
    cases x <;> try (simp only [opBuiltin] at h; exact absurd h (by simp))
    rename_i k n
    cases k <;> try (simp only [opBuiltin] at h; exact absurd h (by simp))
    simp only [RepAs, RepA] at has
    obtain ⟨v, _, rfl, h1, v', _, rfl, rfl, rfl⟩ := has
    exact out_good (uString_ok hP hM h1 h)
/-! ### one operation -/
theorem optRep {ρ : Operand → AV} {cρ : Operand → Value} (hρ : ∀ x, RepA Γ.P w S σ ob (ρ x) (cρ x)) (o : Option Operand) : OptRep Γ w S σ ob (o.map ρ) (o.map cρ) := by
  cases o with
  | none => exact trivial
  | some x => exact hρ x
theorem parts_get {ρ : Operand → AV} {cρ : Operand → Value} (hρ : ∀ x, RepA Γ.P w S σ ob (ρ x) (cρ x)) (ps : Array (Nat × Operand)) :
    (ps.map fun (i, x) => (i, cρ x)).toList.length = (ps.toList.map fun p => (p.1, ρ p.2)).length ∧
    ∀ (k : Nat) (p : Nat × AV), (ps.toList.map fun p => (p.1, ρ p.2))[k]? = some p → ∃ v, (ps.map fun (i, x) => (i, cρ x)).toList[k]? = some (p.1, v) ∧ RepA Γ.P w S σ ob p.2 v := by
  refine ⟨by simp, fun k p hp => ?_⟩
  rw [List.getElem?_map] at hp
  obtain ⟨q, hq, rfl⟩ := Option.map_eq_some_iff.1 hp
  refine ⟨cρ q.2, ?_, hρ _⟩
  rw [Array.toList_map, List.getElem?_map, hq]
  rfl
theorem stepOp_ok (hP : tabOk Γ.P = true) (hZ : zeroOk Γ.P = true) (hM : MemOK Γ w0 S0 X w S σ ob) {call : Handle} (hc : CallsOK Γ call) {f : FuncId} {o : Oper} {ρ : Operand → AV} {cρ : Operand → Value}
    (hρ : ∀ x, RepA Γ.P w S σ ob (ρ x) (cρ x)) (hcn : cρ (.const .nilIface) = .nilIface) {K : AV → Objs → Option R} {r : R} (h : stepOp Γ call f o ρ ob K = some r) :
    ∃ av ob', K av ob' = some r ∧ OpGood Γ w0 S0 X w S σ ob av ob' (execOp cρ o) := by
  obtain ⟨dst, op, type, pos, after, guard⟩ := o
  cases op <;> simp only [stepOp] at h <;> (try exact absurd h (by simp)) <;> simp only [execOp]
  case move x => exact ⟨_, ob, h, good_same hM (by simp) (hρ x)⟩
  case assign x => exact ⟨_, ob, h, good_same hM (by simp) (hρ x)⟩
  case pick c a b =>
    split at h
    · rename_i x hx
      have := hρ c
      rw [hx] at this
      simp only [RepA] at this
      rcases cond_cases h with ⟨rfl, h⟩ | ⟨rfl, h⟩
      · exact ⟨_, ob, h, good_same hM (by simp [this, asBool]) (hρ a)⟩
      · exact ⟨_, ob, h, good_same hM (by simp [this, asBool]) (hρ b)⟩
    · exact absurd h (by simp)
  case alloc e =>
    obtain ⟨hf, h⟩ := cond_some h
    obtain ⟨w', σ', cv, hr, ht, hv⟩ := alloc_ok hP hZ hM hf
    exact ⟨_, _, h, good_val (run_v hr) ht hv⟩
  case box e x =>
    obtain ⟨hf, h⟩ := cond_some h
    obtain ⟨w', σ', cv, hr, ht, hv⟩ := box_ok hP hM hf (hρ x)
    exact ⟨_, _, h, good_val (run_v hr) ht hv⟩
  case build t ps =>
    obtain ⟨g1, g2⟩ := parts_get hρ ps
    exact same_good hM (build_ok hP hZ h g1 g2) (fun _ => rfl)
  case buildSlice t n ps =>
    obtain ⟨g1, g2⟩ := parts_get hρ ps
    exact out_good (buildSlice_ok hP hZ hM h g1 g2)
  case load t a =>
    obtain ⟨av, hK, cv, hv, hr⟩ := load_ok hP hM (hρ a) h
    exact ⟨av, ob, hK, good_same hM (run_v hr) hv⟩
  case store t a x =>
    obtain ⟨ob', hK, w', ht, hr⟩ := store_ok hP hM (hρ a) (hρ x) h
    exact ⟨.undef, ob', hK, good_skip (run_u hr) ht⟩
  case nilCheck x =>
    split at h
    · rename_i j p u hx
      have hr := hρ x
      rw [hx] at hr
      have hr' := hr
      simp only [RepA] at hr
      obtain ⟨_, b, off, hv, _⟩ := hr
      rw [hv] at hr' ⊢
      exact ⟨_, ob, h, good_same hM (by simp) hr'⟩
    · rename_i u y hx
      have hr := hρ x
      rw [hx] at hr
      have hr' := hr
      simp only [RepA] at hr
      obtain ⟨b, o, vs, hv, _⟩ := hr
      rw [hv] at hr' ⊢
      exact ⟨_, ob, h, good_same hM (by simp) hr'⟩
    · exact absurd h (by simp)
  case binOp op t x y yt =>
    rcases cond_cases h with ⟨hc, h⟩ | ⟨_, h⟩
    · obtain ⟨av, hK, cv, hv, hr⟩ := errK_ok hc h (hρ x)
      exact ⟨av, ob, hK, good_same hM (run_v (by rw [show cρ y = .nilIface from (isNilC_eq hc) ▸ hcn]; exact hr x)) hv⟩
    rcases cond_cases h with ⟨_, h⟩ | ⟨_, h⟩
    · obtain ⟨av, hK, cv, hv, hr⟩ := ptrEq_ok h (hρ x) (hρ y)
      exact ⟨av, ob, hK, good_same hM (run_v (hr x y)) hv⟩
    · obtain ⟨av, hK, cv, hv, hr⟩ := opBin_ok hP h (hρ x) (hρ y)
      exact ⟨av, ob, hK, good_same hM (run_v (hr x y)) hv⟩
  case unOp op t x =>
    split at h
    · rename_i a ha
      obtain ⟨cv, hv, hr⟩ := opUn_ok ha (hρ x)
      exact ⟨_, ob, h, good_same hM (run_v hr) hv⟩
    · exact absurd h (by simp)
  case convert s d x =>
    rcases cond_cases h with ⟨_, h⟩ | ⟨_, h⟩
    · obtain ⟨av, hK, cv, hv, hr⟩ := ptrConv_ok hP hM (hρ x) h
      exact ⟨av, ob, hK, good_same hM (run_v hr) hv⟩
    · exact out_good (convert_ok hP hM (hρ x) h)
  case makeSlice t l c => exact out_good (makeSlice_ok hP hZ hM (hρ l) (hρ c) h)
  case slice t x lo hi mx =>
    have hat : (Instr.sliceAt t (cρ x) (lo.map cρ) (hi.map cρ) (mx.map cρ)).run Γ.P w = (Instr.slice t (cρ x) (lo.map cρ) (hi.map cρ) (mx.map cρ)).run Γ.P w := by
      have hd : ∃ d, und Γ.P t = some d ∧ ∀ n e, d ≠ .array n e := by
        unfold opSlice at h
        split at h
        · rename_i hd _; exact ⟨_, ds_some hd (by simp), by simp⟩
        · rename_i hd _; exact ⟨_, ds_some hd (by simp), by simp⟩
        · rename_i hd _; exact ⟨_, ds_some hd (by simp), by simp⟩
        · rename_i hd _; exact ⟨_, ds_some hd (by simp), by simp⟩
        · exact absurd h (by simp)
      obtain ⟨d, hd, hna⟩ := hd
      cases d <;> first | exact absurd rfl (hna _ _) | simp [Instr.sliceAt, run_underlying (und_lt hd).2]
    obtain ⟨av, ob', hK, cv, w', S', σ', hr, ht, hv⟩ := slice_ok hP hM (hρ x) (optRep hρ lo) (optRep hρ hi) (optRep hρ mx) h
    exact ⟨av, ob', hK, good_val (run_v (hat.trans hr)) ht hv⟩
  case fieldAddr s x i => exact same_good hM (fieldAddr_ok hP (hρ x) h) (fun _ => rfl)
  case field t x i => exact same_good hM (field_ok hP (hρ x) h) (fun _ => rfl)
  case indexAddr t x ix => exact same_good hM (indexAddr_ok hP (hρ x) (hρ ix) h) (fun _ => rfl)
  case index t x ix => exact same_good hM (index_ok hP (hρ x) (hρ ix) h) (fun _ => rfl)
  case extract x i => exact same_good hM (extract_ok (hρ x) h) (fun _ => rfl)
  case call c =>
    split at h
    · rename_i b hb
      obtain ⟨cs, e⟩ : ∃ cs, (do let d ← resolve cρ c type; invoke d.target d.args : Sem Next).run Γ.P w = (builtin b c.argTypes.toList.toArray type cs (c.args.toList.map cρ).toArray).run Γ.P w := by
        have e2 : (c.args.toList.map cρ).toArray = c.args.map cρ := by apply Array.ext'; simp
        rw [e2]
        unfold resolve
        rw [hb]
        exact ⟨_, rfl⟩
      obtain ⟨av, ob', hK, hg⟩ := builtin_ok (vals := c.args.toList.map cρ) (ty := type) (cs := cs) hP hZ hM (RepAs.of_map hρ _) h
      refine ⟨av, ob', hK, ?_⟩
      unfold OpGood at hg ⊢
      rw [e]; exact hg
    · rename_i g hg
      obtain ⟨av, ob', hK, hgd⟩ := call_ok hP hM hc (vals := c.args.toList.map cρ) (hρ g) (RepAs.of_map hρ _) h
      refine ⟨av, ob', hK, ?_⟩
      have e2 : (c.args.toList.map cρ).toArray = c.args.map cρ := by apply Array.ext'; simp
      rw [e2] at hgd
      unfold resolve
      rw [hg]
      exact hgd
    · exact absurd h (by simp)
end
end Go.Proofs.YtjbemleloffafaaDoor.V
