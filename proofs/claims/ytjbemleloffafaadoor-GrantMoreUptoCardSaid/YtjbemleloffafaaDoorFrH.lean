/- Variables: what they hold, found and replaced by a path; loads and stores. -/
import Derived.Test.YtjbemleloffafaaDoorFrG
namespace Go.Proofs.YtjbemleloffafaaDoor.V
open Go
set_option linter.unusedVariables false
set_option linter.unusedSimpArgs false

section
variable {P : Program} {w w' : World} {S S' : Addr → Prop} {σ σ' : Loc} {ob ob' : Objs} {R : Type}

/-- a value of a type, with these cells -/
def BV (P : Program) (w : World) (S : Addr → Prop) (σ : Loc) (ob : Objs) (t : TypeId) (a : AV) (vs : List Value) : Prop :=
  fits P t a = true ∧ ∃ v : Value, v.cells.toList = vs ∧ RepA P w S σ ob a v

theorem isTy_spec {t : TypeId} {a : AV} (h : isTy P t a = true) :
    (∃ k n, a = .i k n ∧ und P t = some (.int k)) ∨ (∃ x, a = .b x ∧ und P t = some .bool) ∨ (∃ l, a = .s l ∧ und P t = some .string) ∨
    (∃ e, a = .snil ∧ und P t = some (.slice e)) ∨ (∃ e c xs, a = .sl (underId P e) c xs ∧ und P t = some (.slice e)) ∨
    (∃ x d, a = .d (underId P t) x ∧ und P t = some d ∧ ((∃ f, d = .struct f) ∨ ∃ n e, d = .array n e)) := by
  unfold isTy at h
  split at h
  · rename_i k n k' hd
    obtain rfl := kEq_iff.1 h
    exact .inl ⟨_, _, rfl, ds_some hd (by simp)⟩
  · rename_i x hd; exact .inr (.inl ⟨_, rfl, ds_some hd (by simp)⟩)
  · rename_i l hd; exact .inr (.inr (.inl ⟨_, rfl, ds_some hd (by simp)⟩))
  · rename_i e hd; exact .inr (.inr (.inr (.inl ⟨_, rfl, ds_some hd (by simp)⟩)))
  · rename_i e c xs e' hd
    obtain rfl := beq_id h
    exact .inr (.inr (.inr (.inr (.inl ⟨_, _, _, rfl, ds_some hd (by simp)⟩))))
  · rename_i u x f hd
    obtain rfl := beq_id h
    exact .inr (.inr (.inr (.inr (.inr ⟨_, _, rfl, ds_some hd (by simp), .inl ⟨_, rfl⟩⟩))))
  · rename_i u x n e hd
    obtain rfl := beq_id h
    exact .inr (.inr (.inr (.inr (.inr ⟨_, _, rfl, ds_some hd (by simp), .inr ⟨_, _, rfl⟩⟩))))
  · exact absurd h (by simp)
theorem fits_spec {t : TypeId} {a : AV} (h : fits P t a = true) :
    (∃ e j, a = .ref (underId P e) j ∧ und P t = some (.slice e)) ∨ (∃ j p e, a = .ptr j p (underId P e) ∧ und P t = some (.pointer e)) ∨ (∃ e, a = .pnil ∧ und P t = some (.pointer e)) ∨
    (∃ l f, a = .agg (underId P t) l ∧ und P t = some (.struct f)) ∨ (∃ g l x y z, a = .fn g l ∧ und P t = some (.func x y z)) ∨ isTy P t a = true := by
  unfold fits at h
  split at h
  · rename_i e j e' hd
    obtain rfl := beq_id h
    exact .inl ⟨_, _, rfl, ds_some hd (by simp)⟩
  · rename_i j p u e hd
    obtain rfl := beq_id h
    exact .inr (.inl ⟨_, _, _, rfl, ds_some hd (by simp)⟩)
  · rename_i e hd; exact .inr (.inr (.inl ⟨_, rfl, ds_some hd (by simp)⟩))
  · rename_i u l f hd
    obtain rfl := beq_id h
    exact .inr (.inr (.inr (.inl ⟨_, _, rfl, ds_some hd (by simp)⟩)))
  · rename_i f c x y z hd; exact .inr (.inr (.inr (.inr (.inl ⟨_, _, _, _, _, rfl, ds_some hd (by simp)⟩))))
  · exact .inr (.inr (.inr (.inr (.inr h))))
theorem fits_has {t : TypeId} {a : AV} (h : fits P t a = true) : ∃ d, und P t = some d := by
  rcases fits_spec h with ⟨_, _, _, h⟩ | ⟨_, _, _, _, h⟩ | ⟨_, _, h⟩ | ⟨_, _, _, h⟩ | ⟨_, _, _, _, _, _, h⟩ | h
  all_goals try exact ⟨_, h⟩
  rcases isTy_spec h with ⟨_, _, _, h⟩ | ⟨_, _, h⟩ | ⟨_, _, h⟩ | ⟨_, _, h⟩ | ⟨_, _, _, _, h⟩ | ⟨_, _, _, h, _⟩ <;> exact ⟨_, h⟩
/-- types with the same under them -/
theorem fits_ty (hP : tabOk P = true) {t t' : TypeId} {a : AV} (hu : underId P t = underId P t') (h : fits P t a = true) (h' : ∃ d, und P t' = some d) : fits P t' a = true := by
  obtain ⟨d, hd⟩ := fits_has h
  obtain ⟨d', hd'⟩ := h'
  have e : und P t = und P t' := by rw [hd, hd', ← (underId_spec hP hd).1, ← (underId_spec hP hd').1, hu]
  have e2 : ds P t = ds P t' := by unfold ds; rw [e]
  unfold fits isTy at *
  rw [← e2, ← hu]
  exact h

theorem cells_one {v : Value} (h : v.oneCell' = true) : v.cells = #[v] := by cases v <;> simp_all [Value.cells, Value.oneCell']
theorem RepAg.size : ∀ {l : List AV} {ts : List TypeId} {vs : List Value}, RepAg P w S σ ob l ts vs → vs.length = sumCells P ts
  | [], ts, vs, h => by simp only [RepAg] at h; rw [h.1, h.2]; rfl
  | a :: r, ts, vs, h => by
    simp only [RepAg] at h
    obtain ⟨t, ts', v, vs', rfl, rfl, h3, _, _, h6⟩ := h
    simp only [List.length_append, sumCells, RepAg.size h6, Array.length_toList, h3]
mutual
theorem fits_size (hP : tabOk P = true) : ∀ (a : AV) (t : TypeId) (v : Value), fits P t a = true → RepA P w S σ ob a v → v.cells.size = P.cellsOf t ∧ ∀ x ∈ v.cells.toList, x.oneCell' = true
  | .agg u l, t, v, h, hr => by
    rcases fits_spec h with ⟨_, _, e, _⟩ | ⟨_, _, _, e, _⟩ | ⟨_, e, _⟩ | ⟨_, f, e, hu⟩ | ⟨_, _, _, _, _, e, _⟩ | h
    all_goals try cases e
    · simp only [RepA] at hr
      obtain ⟨cs, flds, rfl, h2, h3⟩ := hr
      rw [(underId_spec hP hu).1] at h2
      cases h2
      refine ⟨?_, ?_⟩
      · simp only [Value.cells, List.size_toArray, RepAg.size h3, (cells_struct hP hu).2]
      · simp only [Value.cells]; exact RepAg.one hP _ _ _ h3
    · rcases isTy_spec h with ⟨_, _, e, _⟩ | ⟨_, e, _⟩ | ⟨_, e, _⟩ | ⟨_, e, _⟩ | ⟨_, _, _, e, _⟩ | ⟨_, _, e, _, _⟩ <;> cases e
  | a, t, v, h, hr => by
    rcases fits_spec h with ⟨e, j, rfl, hu⟩ | ⟨j, p, e, rfl, hu⟩ | ⟨e, rfl, hu⟩ | ⟨l, f, rfl, hu⟩ | ⟨g, l, x, y, z, rfl, hu⟩ | h
    · simp only [RepA] at hr; obtain ⟨_, b, n, cap, rfl, _⟩ := hr; simp [Value.cells, Value.oneCell', cells_slice hP hu]
    · simp only [RepA] at hr; obtain ⟨_, b, off, rfl, _⟩ := hr; simp [Value.cells, Value.oneCell', cells_pointer hP hu]
    · simp only [RepA] at hr; subst hr; simp [Value.cells, Value.oneCell', cells_pointer hP hu]
    · simp only [RepA] at hr
      obtain ⟨cs, flds, rfl, h2, h3⟩ := hr
      rw [(underId_spec hP hu).1] at h2
      cases h2
      refine ⟨?_, ?_⟩
      · simp only [Value.cells, List.size_toArray, RepAg.size h3, (cells_struct hP hu).2]
      · simp only [Value.cells]; exact RepAg.one hP _ _ _ h3
    · simp only [RepA] at hr; obtain ⟨cs, rfl, _⟩ := hr; simp [Value.cells, Value.oneCell', cells_func hP hu]
    · rcases isTy_spec h with ⟨k, n, rfl, hu⟩ | ⟨x, rfl, hu⟩ | ⟨l, rfl, hu⟩ | ⟨e, rfl, hu⟩ | ⟨e, c, xs, rfl, hu⟩ | ⟨x, d, rfl, hu, hd⟩
      · simp only [RepA] at hr; subst hr; simp [Value.cells, Value.oneCell', cells_int hP hu]
      · simp only [RepA] at hr; subst hr; simp [Value.cells, Value.oneCell', cells_bool hP hu]
      · simp only [RepA] at hr; obtain ⟨s, _, rfl⟩ := hr; simp [Value.cells, Value.oneCell', cells_string hP hu]
      · simp only [RepA] at hr; subst hr; simp [Value.cells, Value.oneCell', cells_slice hP hu]
      · simp only [RepA] at hr; obtain ⟨a, cap, rfl, _⟩ := hr; simp [Value.cells, Value.oneCell', cells_slice hP hu]
      · simp only [RepA] at hr
        obtain ⟨cs, rfl, h2, _⟩ := hr
        refine ⟨?_, ?_⟩
        · simp only [Value.cells, List.size_toArray, RepT.size hP _ _ _ h2, (underId_spec hP hu).2.1]
        · simp only [Value.cells]; exact RepT.one _ _ _ h2
theorem RepAg.one (hP : tabOk P = true) : ∀ (l : List AV) (ts : List TypeId) (vs : List Value), RepAg P w S σ ob l ts vs → ∀ x ∈ vs, x.oneCell' = true
  | [], ts, vs, h => by simp only [RepAg] at h; rw [h.2]; simp
  | a :: r, ts, vs, h => by
    simp only [RepAg] at h
    obtain ⟨t, ts', v, vs', rfl, rfl, h3, h4, h5, h6⟩ := h
    intro x hx
    rcases List.mem_append.1 hx with hx | hx
    · exact (fits_size hP a t v h4 h5).2 x hx
    · exact RepAg.one hP r ts' vs' h6 x hx
end
theorem BV.size (hP : tabOk P = true) {t a vs} (h : BV P w S σ ob t a vs) : vs.length = P.cellsOf t ∧ ∀ x ∈ vs, x.oneCell' = true := by
  obtain ⟨h1, v, rfl, h2⟩ := h
  have := fits_size hP a t v h1 h2
  exact ⟨by simpa using this.1, this.2⟩

/-- data fits its type -/
theorem fromD_fits (hP : tabOk P = true) {x : D} {t : TypeId} {vs : List Value} (h : RepT P w S x t vs) : fits P t (fromD P t x) = true := by
  have : isTy P t (fromD P t x) = true := by
    cases x with
    | int k n => simp only [RepT] at h; simp [fromD, isTy, ds_of h.1, kEq_iff]
    | bool k => simp only [RepT] at h; simp [fromD, isTy, ds_of h.1]
    | str k => simp only [RepT] at h; simp [fromD, isTy, ds_of h.1]
    | slice k xs => simp only [RepT] at h; obtain ⟨e, a, cap, h1, _⟩ := h; simp [fromD, isTy, ds_of h1, elemU]
    | agg fs => simp only [RepT] at h; rcases h with ⟨f, h1, _⟩ | ⟨n, e, h1, _⟩ <;> simp [fromD, isTy, ds_of h1]
  unfold fits
  split
  all_goals first
    | exact this
    | (rename_i hq _; cases x <;> simp [fromD] at hq)
    | (rename_i hq; cases x <;> simp [fromD] at hq)
theorem BV.ofD (hP : tabOk P = true) {x : D} {t : TypeId} {vs : List Value} (h : RepT P w S x t vs) : BV P w S σ ob t (fromD P t x) vs :=
  ⟨fromD_fits hP h, valOf P t vs, valOf_cells hP h, fromD_ok hP h⟩
/-- and back -/
theorem toD_rep (hP : tabOk P = true) {a : AV} {t : TypeId} {vs : List Value} {x : D} (h : BV P w S σ ob t a vs) (hd : toD a = some x) : RepT P w S x t vs := by
  obtain ⟨h1, v, rfl, h2⟩ := h
  rcases fits_spec h1 with ⟨e, j, rfl, hu⟩ | ⟨j, p, e, rfl, hu⟩ | ⟨e, rfl, hu⟩ | ⟨l, f, rfl, hu⟩ | ⟨g, l, x, y, z, rfl, hu⟩ | h1
  all_goals try (simp [toD] at hd; done)
  rcases isTy_spec h1 with ⟨k, n, rfl, hu⟩ | ⟨x, rfl, hu⟩ | ⟨l, rfl, hu⟩ | ⟨e, rfl, hu⟩ | ⟨e, c, xs, rfl, hu⟩ | ⟨x, d, rfl, hu, hk⟩
  · cases hd; simp only [RepA] at h2; subst h2; simp [RepT, hu, Value.cells]
  · cases hd; simp only [RepA] at h2; subst h2; simp [RepT, hu, Value.cells]
  · cases hd; simp only [RepA] at h2; obtain ⟨s, rfl, rfl⟩ := h2; simp only [RepT]; exact ⟨hu, s, rfl, by simp [Value.cells]⟩
  · cases hd; simp only [RepA] at h2; subst h2; simp [RepT, hu, Value.cells, CapOK]
  · cases hd
    simp only [RepA] at h2
    obtain ⟨a, cap, rfl, hc, hr⟩ := h2
    simp only [RepT]
    refine ⟨e, a, cap, hu, by simp [Value.cells], hc, hr.imp id fun ⟨b, o, ha, hr⟩ => ⟨b, o, ha, ?_⟩⟩
    obtain ⟨dd, hd⟩ := elem_slice hP hu
    obtain ⟨u1, u2, _, _⟩ := underId_spec hP hd
    exact hr.ty (hd.trans u1.symm) u2.symm
  · cases hd
    simp only [RepA] at h2
    obtain ⟨cs, rfl, h3, _⟩ := h2
    simp only [Value.cells]
    exact h3.ty (hu.trans (underId_spec hP hu).1.symm)
end
end Go.Proofs.YtjbemleloffafaaDoor.V
