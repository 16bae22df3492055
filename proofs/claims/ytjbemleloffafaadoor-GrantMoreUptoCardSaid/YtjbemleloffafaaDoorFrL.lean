/- Operations. Part three: addresses, parts, literals, lengths, conversions, slices. -/
import Derived.Test.YtjbemleloffafaaDoorFrK
namespace Go.Proofs.YtjbemleloffafaaDoor.V
open Go
set_option linter.unusedVariables false
set_option linter.unusedSimpArgs false

section
variable {Γ : Ctx} {w0 : World} {S0 : Addr → Prop} {X : XB} {w w' : World} {S S' : Addr → Prop} {σ σ' : Loc} {ob ob' : Objs} {R : Type}

theorem fieldT_spec {P : Program} {t ft : TypeId} {i : Nat} (h : fieldT P t i = some ft) :
    ∃ fs f, und P t = some (.struct fs) ∧ fs[i]? = some f ∧ f.type = ft ∧ P.cellsOf f.type ≠ 0 := by
  unfold fieldT at h
  split at h
  · rename_i fs hd
    split at h
    · rename_i f hf
      have hz : Nat.beq (P.cellsOf f.type) 0 = false ∧ f.type = ft := by
        cases hb : Nat.beq (P.cellsOf f.type) 0 with
        | true => simp [hb] at h
        | false => simp [hb] at h; exact ⟨rfl, h⟩
      exact ⟨fs, f, ds_some hd (by simp), hf, hz.2, by intro e; rw [e] at hz; simp at hz⟩
    · exact absurd h (by simp)
  · exact absurd h (by simp)
theorem offP_snoc {P : Program} (hP : tabOk P = true) : ∀ (p : List Nat) (t : TypeId) (off : Nat) (u s : TypeId) (q : List Nat) (o' : Nat) (u' : TypeId), offP P t p = some (off, u) → u = underId P s → (∃ d, und P s = some d) →
    offP P s q = some (o', u') → (q ≠ []) → offP P t (p ++ q) = some (off + o', u')
  | [], t, off, u, s, q, o', u', h, hu, hs, hq, hne => by
    simp only [offP] at h
    obtain ⟨d', hd', h⟩ := Option.map_eq_some_iff.1 h
    simp only [Prod.mk.injEq] at h
    obtain ⟨rfl, h2⟩ := h
    subst hu
    obtain ⟨d, hd⟩ := hs
    cases q with
    | nil => exact absurd rfl hne
    | cons i q =>
      simp only [List.nil_append, Nat.zero_add]
      have : und P t = und P s := by
        have hus := (underId_spec hP hd).1
        rw [← h2] at hus
        rw [hd', hd, ← (underId_spec hP hd').1, hus]
      simp only [offP, this] at hq ⊢
      exact hq
  | i :: p, t, off, u, s, q, o', u', h, hu, hs, hq, hne => by
    simp only [List.cons_append, offP] at h ⊢
    split at h
    · rename_i fs hd
      split at h
      · rename_i f hf
        obtain ⟨x1, hx1, hx2⟩ := Option.map_eq_some_iff.1 h
        simp only [Prod.mk.injEq] at hx2
        have := offP_snoc hP p f.type x1.1 x1.2 s q o' u' (by rw [hx1]) (hx2.2.trans hu) hs hq hne
        simp only [this, Option.map_some, Option.some.injEq, Prod.mk.injEq, and_true]
        omega
      · exact absurd h (by simp)
    · rename_i n e hd
      split at h
      · rename_i hin
        rw [if_pos hin]
        obtain ⟨x1, hx1, hx2⟩ := Option.map_eq_some_iff.1 h
        simp only [Prod.mk.injEq] at hx2
        have := offP_snoc hP p e x1.1 x1.2 s q o' u' (by rw [hx1]) (hx2.2.trans hu) hs hq hne
        simp only [this, Option.map_some, Option.some.injEq, Prod.mk.injEq, and_true]
        omega
      · exact absurd h (by simp)
    · exact absurd h (by simp)

/-! ### addresses -/
theorem fieldAt_run {s : TypeId} {fs : Array Field} {f : Field} {i b o : Nat} (hs : und Γ.P s = some (.struct fs)) (hf : fs[i]? = some f) (hz : Γ.P.cellsOf f.type ≠ 0) :
    (Instr.fieldAt s (.pointer (some ⟨b, o, none⟩)) i).run Γ.P w = .ok (.pointer (some ⟨b, o + f.offset, none⟩)) w := by
  have hi : ∃ x, Γ.P.info? f.type = some x := by
    cases h : Γ.P.info? f.type with
    | some x => exact ⟨x, rfl⟩
    | none => simp [Program.cellsOf, h] at hz
  obtain ⟨x, hi⟩ := hi
  have hfp : (fieldPlace ⟨b, o, none⟩ f).run Γ.P w = .ok ⟨b, o + f.offset, none⟩ w := by
    unfold fieldPlace
    simp only [Sem.run_bind, run_sizeOf w hi, Result.andThen_ok, hz, if_false, Sem.run_pure, Addr.add_mid]
  simp only [Instr.fieldAt, Sem.run_bind, run_underlying (und_lt hs).2, Result.andThen_ok, hf, Instr.sureAddr, Sem.run_pure, hfp]
theorem fieldAddr_ok (hP : tabOk Γ.P = true) {s : TypeId} {i : Nat} {a : AV} {v : Value} {K : AV → Option R} {r : R} (ha : RepA Γ.P w S σ ob a v) (h : opFieldAddr Γ.P s i a K = some r) :
    ∃ av, K av = some r ∧ ∃ cv, RepA Γ.P w S σ ob av cv ∧ (Instr.fieldAt s v i).run Γ.P w = .ok cv w := by
  unfold opFieldAddr at h
  have path : ∀ {p : List Nat} {t u ft : TypeId} {off : Nat}, fieldT Γ.P s i = some ft → u = underId Γ.P s → offP Γ.P t p = some (off, u) →
      ∃ fs f, und Γ.P s = some (.struct fs) ∧ fs[i]? = some f ∧ Γ.P.cellsOf f.type ≠ 0 ∧ offP Γ.P t (p ++ [i]) = some (off + f.offset, underId Γ.P ft) := by
    intro p t u ft off hft hu ho
    obtain ⟨fs, f, hs, hf, rfl, hz⟩ := fieldT_spec hft
    obtain ⟨d, hd⟩ := field_und hP hs hf
    refine ⟨fs, f, hs, hf, hz, ?_⟩
    have := offP_snoc hP p t off u s [i] f.offset (underId Γ.P f.type) ho hu ⟨_, hs⟩ (by simp only [offP, hs, hf, hd, Option.map_some, Nat.add_zero]) (by simp)
    exact this
  split at h
  · rename_i u y ft hft
    obtain ⟨h1, h2⟩ := cond_some h
    obtain rfl := beq_id h1
    obtain ⟨ys, rfl, h2⟩ := dAgg_some h2
    obtain ⟨z, hz, h2⟩ := lGet_some h2
    obtain ⟨fs, f, hs, hf, rfl, hnz⟩ := fieldT_spec hft
    simp only [RepA] at ha
    obtain ⟨b, o, vs, rfl, hc, hr⟩ := ha
    have hr := hr.back hP ⟨_, hs⟩
    simp only [RepT, hs] at hr
    rcases hr with ⟨fs', e, hr⟩ | ⟨n, e, e', _⟩
    · cases e
      have hfl : fs.toList[i]? = some f := by simpa using hf
      obtain ⟨A, V, B, rfl, hA, hV, _⟩ := RepFs.get hP i hr hz (t := f.type) (by simp [hfl])
      have ho := offsOk_get (cells_struct hP hs).1 hfl
      rw [Nat.zero_add, ← hA] at ho
      refine ⟨_, h2, _, ?_, fieldAt_run hs hf hnz⟩
      simp only [RepA]
      refine ⟨b, o + f.offset, V, rfl, fun k v hv => ?_, hV.under hP⟩
      have hk := getL hv
      have := hc (A.length + k) v (by rw [List.append_assoc, List.getElem?_append_right (by omega), show A.length + k - A.length = k by omega, List.getElem?_append_left hk, hv])
      rw [ho, Nat.add_assoc]; exact this
    · cases e'
  · rename_i j p u ft hft
    obtain ⟨h1, h2⟩ := cond_some h
    obtain rfl := beq_id h1
    simp only [RepA] at ha
    obtain ⟨hl, b, off, rfl, ha⟩ := ha
    obtain ⟨fs, f, hs, hf, rfl, hnz⟩ := fieldT_spec hft
    refine ⟨_, h2, _, ?_, fieldAt_run hs hf hnz⟩
    simp only [RepA]
    refine ⟨hl, b, off + f.offset, rfl, fun tj c hc => ?_⟩
    obtain ⟨h3, h4⟩ := ha _ _ hc
    obtain ⟨fs', f', hs', hf', _, ho⟩ := path hft rfl h4
    rw [hs] at hs'; cases hs'
    rw [hf] at hf'; cases hf'
    exact ⟨h3, ho⟩
  · rename_i j n p u ft hft
    obtain ⟨h1, h2⟩ := cond_some h
    obtain rfl := beq_id h1
    simp only [RepA] at ha
    obtain ⟨hl, b, off, rfl, ha⟩ := ha
    obtain ⟨fs, f, hs, hf, rfl, hnz⟩ := fieldT_spec hft
    refine ⟨_, h2, _, ?_, fieldAt_run hs hf hnz⟩
    simp only [RepA]
    refine ⟨hl, b, off + f.offset, rfl, fun e' xs fz hc => ?_⟩
    obtain ⟨h3, o, h4, h5⟩ := ha _ _ _ hc
    obtain ⟨fs', f', hs', hf', _, ho⟩ := path hft rfl h4
    rw [hs] at hs'; cases hs'
    rw [hf] at hf'; cases hf'
    exact ⟨h3, _, ho, by omega⟩
  · exact absurd h (by simp)
theorem part_runA (hP : tabOk Γ.P = true) {t : TypeId} {a : AV} {v : Value} {l A B : List Value} {off : Nat} (h1 : fits Γ.P t a = true) (h2 : RepA Γ.P w S σ ob a v)
    (hl : l = A ++ v.cells.toList ++ B) (ho : A.length = off) : (part t l.toArray off).run Γ.P w' = .ok v w' := by
  subst hl; subst ho
  obtain ⟨hs, _⟩ := fits_size hP a t v h1 h2
  have agg : ∀ (d : TypeDesc) (cs : List Value), und Γ.P t = some d → d.isRow = true → v = .agg cs.toArray → (part t (A ++ v.cells.toList ++ B).toArray A.length).run Γ.P w' = .ok v w' := by
    intro d cs hu hd hv
    subst hv
    have hex : (A ++ cs ++ B).toArray.extract A.length (A.length + Γ.P.cellsOf t) = cs.toArray := by
      apply Array.ext'
      simp only [Value.cells] at hs
      simp [← hs]
    unfold part
    rw [Sem.run_bind, isAgg_run hP hu, hd]
    simp only [Result.andThen_ok, if_true, Sem.run_bind, sizeOf_run hu, Sem.run_pure, Value.cells, hex]
  have one : ∀ (d : TypeDesc), und Γ.P t = some d → d.isRow = false → v.oneCell' = true → (part t (A ++ v.cells.toList ++ B).toArray A.length).run Γ.P w' = .ok v w' := by
    intro d hu hd hv
    have hc := cells_one hv
    unfold part
    rw [Sem.run_bind, isAgg_run hP hu, hd]
    simp [hc]
  rcases fits_spec h1 with ⟨e, j, rfl, hu⟩ | ⟨j, p, e, rfl, hu⟩ | ⟨e, rfl, hu⟩ | ⟨l, f, rfl, hu⟩ | ⟨g, l, x, y, z, rfl, hu⟩ | h1
  · simp only [RepA] at h2; obtain ⟨_, b', n, cap, rfl, _⟩ := h2; exact one _ hu rfl rfl
  · simp only [RepA] at h2; obtain ⟨_, b', off, rfl, _⟩ := h2; exact one _ hu rfl rfl
  · simp only [RepA] at h2; subst h2; exact one _ hu rfl rfl
  · simp only [RepA] at h2; obtain ⟨cs, flds, hv, _⟩ := h2; exact agg _ cs hu rfl hv
  · simp only [RepA] at h2; obtain ⟨cs, rfl, _⟩ := h2; exact one _ hu rfl rfl
  · rcases isTy_spec h1 with ⟨k, n, rfl, hu⟩ | ⟨x, rfl, hu⟩ | ⟨l, rfl, hu⟩ | ⟨e, rfl, hu⟩ | ⟨e, c, xs, rfl, hu⟩ | ⟨x, d, rfl, hu, hk⟩
    · simp only [RepA] at h2; subst h2; exact one _ hu rfl rfl
    · simp only [RepA] at h2; subst h2; exact one _ hu rfl rfl
    · simp only [RepA] at h2; obtain ⟨s, _, rfl⟩ := h2; exact one _ hu rfl rfl
    · simp only [RepA] at h2; subst h2; exact one _ hu rfl rfl
    · simp only [RepA] at h2; obtain ⟨a', cap, rfl, _⟩ := h2; exact one _ hu rfl rfl
    · simp only [RepA] at h2
      obtain ⟨cs, hv, _⟩ := h2
      exact agg d cs hu (by rcases hk with ⟨f, rfl⟩ | ⟨n, e, rfl⟩ <;> rfl) hv
theorem field_ok (hP : tabOk Γ.P = true) {t : TypeId} {i : Nat} {a : AV} {v : Value} {K : AV → Option R} {r : R} (ha : RepA Γ.P w S σ ob a v) (h : opField Γ.P t i a K = some r) :
    ∃ av, K av = some r ∧ ∃ cv, RepA Γ.P w S σ ob av cv ∧ (Instr.field t v i).run Γ.P w = .ok cv w := by
  unfold opField at h
  split at h
  · rename_i u y ft hft
    obtain ⟨h1, h2⟩ := cond_some h
    obtain rfl := beq_id h1
    obtain ⟨ys, rfl, h2⟩ := dAgg_some h2
    obtain ⟨z, hz, h2⟩ := lGet_some h2
    have h2 := openD_id _ _ _ _ _ h2
    obtain ⟨fs, f, hs, hf, rfl, hnz⟩ := fieldT_spec hft
    simp only [RepA] at ha
    obtain ⟨cs, rfl, hr, _⟩ := ha
    have hr := hr.back hP ⟨_, hs⟩
    simp only [RepT, hs] at hr
    rcases hr with ⟨fs', e, hr⟩ | ⟨n, e, e', _⟩
    · cases e
      have hfl : fs.toList[i]? = some f := by simpa using hf
      obtain ⟨A, V, B, rfl, hA, hV, _⟩ := RepFs.get hP i hr hz (t := f.type) (by simp [hfl])
      have ho := offsOk_get (cells_struct hP hs).1 hfl
      rw [Nat.zero_add, ← hA] at ho
      refine ⟨_, h2, _, fromD_ok hP hV, ?_⟩
      simp only [Instr.field, Sem.run_bind, run_underlying (und_lt hs).2, Result.andThen_ok, hf, asAgg, Sem.run_pure]
      exact part_run hP hV rfl ho.symm
    · cases e'
  · rename_i u l ft hft
    obtain ⟨h1, h2⟩ := cond_some h
    obtain rfl := beq_id h1
    obtain ⟨fs, f, hs, hf, rfl, hnz⟩ := fieldT_spec hft
    cases hl : l[i]? with
    | none => simp [hl] at h2
    | some a0 =>
      simp only [hl] at h2
      simp only [RepA] at ha
      obtain ⟨cs, flds, rfl, h3, h4⟩ := ha
      rw [(underId_spec hP hs).1] at h3
      cases h3
      have hfl : fs.toList[i]? = some f := by simpa using hf
      obtain ⟨A, V, B, rfl, hA, hV, _⟩ := RepAg.get hP i h4 hl (t := f.type) (by simp [hfl])
      have ho := offsOk_get (cells_struct hP hs).1 hfl
      rw [Nat.zero_add, ← hA] at ho
      obtain ⟨hfit, v0, hv0, hrep⟩ := hV
      refine ⟨_, h2, v0, hrep, ?_⟩
      simp only [Instr.field, Sem.run_bind, run_underlying (und_lt hs).2, Result.andThen_ok, hf, asAgg, Sem.run_pure]
      exact part_runA hP hfit hrep (by rw [hv0]) ho.symm
  · exact absurd h (by simp)
end
end Go.Proofs.YtjbemleloffafaaDoor.V
