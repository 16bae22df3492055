/- Loads and stores of variables. -/
import Derived.Test.YtjbemleloffafaaDoorFrH
namespace Go.Proofs.YtjbemleloffafaaDoor.V
open Go
set_option linter.unusedVariables false
set_option linter.unusedSimpArgs false

section
variable {P : Program} {w w' : World} {S S' : Addr → Prop} {σ σ' : Loc} {ob ob' : Objs} {R : Type}

theorem loadVar_run (hP : tabOk P = true) {t : TypeId} {a : AV} {v : Value} {b o : Nat} (h1 : fits P t a = true) (h2 : RepA P w S σ ob a v) (hr : w.rangeAt b o v.cells.toList) :
    (loadVar t ⟨b, o, none⟩).run P w = .ok v w := by
  obtain ⟨hs, h1c⟩ := fits_size hP a t v h1 h2
  have agg : ∀ (d : TypeDesc) (cs : List Value), und P t = some d → d.isRow = true → v = .agg cs.toArray → (loadVar t ⟨b, o, none⟩).run P w = .ok v w := by
    intro d cs hu hd hv
    subst hv
    have hl : cs.length = P.cellsOf t := by simpa [Value.cells] using hs
    have := run_loadVar_mid (P := P) w b o t cs d (by simpa [Value.cells] using hr) (und_lt hu).2 hd (by rw [size_of_und hu, hl])
    exact this
  have one : ∀ (d : TypeDesc), und P t = some d → d.isRow = false → v.oneCell' = true → (loadVar t ⟨b, o, none⟩).run P w = .ok v w := by
    intro d hu hd hv
    have hc := cells_one hv
    have h0 := hr 0 v (by rw [hc]; rfl)
    simp only [Nat.add_zero] at h0
    unfold loadVar
    rw [Sem.run_bind, isAgg_run hP hu, hd]
    simp only [Result.andThen_ok, Bool.false_eq_true, if_false, run_load, h0]
  rcases fits_spec h1 with ⟨e, j, rfl, hu⟩ | ⟨j, p, e, rfl, hu⟩ | ⟨e, rfl, hu⟩ | ⟨l, f, rfl, hu⟩ | ⟨g, l, x, y, z, rfl, hu⟩ | h1
  · simp only [RepA] at h2; obtain ⟨_, b', n, cap, rfl, _⟩ := h2; exact one _ hu rfl rfl
  · simp only [RepA] at h2; obtain ⟨_, b', off, rfl, _⟩ := h2; exact one _ hu rfl rfl
  · simp only [RepA] at h2; subst h2; exact one _ hu rfl rfl
  · simp only [RepA] at h2; obtain ⟨cs, flds, hv, _⟩ := h2; exact agg _ cs hu rfl hv
  · simp only [RepA] at h2; obtain ⟨cs, rfl, _⟩ := h2; exact one _ hu rfl rfl
  · rcases isTy_spec h1 with ⟨k, n, rfl, hu⟩ | ⟨x, rfl, hu⟩ | ⟨l, rfl, hu⟩ | ⟨e, rfl, hu⟩ | ⟨e, c, xs, rfl, hu⟩ | ⟨x, d, rfl, hu, hk⟩
    · simp only [RepA] at h2; subst h2; exact one _ hu rfl rfl
    · simp only [RepA] at h2; subst h2; exact one _ hu rfl rfl
    · simp only [RepA] at h2; obtain ⟨s, _, rfl⟩ := h2; exact one _ hu rfl rfl
    · simp only [RepA] at h2; subst h2; exact one _ hu rfl rfl
    · simp only [RepA] at h2; obtain ⟨a', cap, rfl, _⟩ := h2; exact one _ hu rfl rfl
    · simp only [RepA] at h2
      obtain ⟨cs, hv, _⟩ := h2
      exact agg d cs hu (by rcases hk with ⟨f, rfl⟩ | ⟨n, e, rfl⟩ <;> rfl) hv
/-- data is loaded -/
theorem loadD_run (hP : tabOk P = true) {t : TypeId} {x : D} {vs : List Value} {b o : Nat} (h : RepT P w S x t vs) (hr : w.rangeAt b o vs) : (loadVar t ⟨b, o, none⟩).run P w = .ok (valOf P t vs) w :=
  loadVar_run (S := S) (σ := fun _ => (0, 0)) (ob := []) hP (fromD_fits hP h) (fromD_ok hP h) (by rw [valOf_cells hP h]; exact hr)

/-! ### stores -/
/-- cells, some of them replaced -/
def putCs (cs : List Value) (o : Nat) (vs : List Value) : List Value := cs.take o ++ vs ++ cs.drop (o + vs.length)
theorem setCell_heap {b o : Nat} {v : Value} {cs : Array Value} {el : TypeId} {fr : Nat × Nat} (h : w.heap[b]? = some (.cells cs el fr)) :
    (w.setCell ⟨b, o, none⟩ v).heap[b]? = some (.cells (cs.setIfInBounds o v) el fr) := by
  simp [World.setCell, Array.getElem?_modify, h]
theorem setCell_heap_ne {b b' o : Nat} {v : Value} (h : b' ≠ b) : (w.setCell ⟨b, o, none⟩ v).heap[b']? = w.heap[b']? := by
  simp [World.setCell, Array.getElem?_modify, h, Ne.symm h]
theorem setCells_heap_ne {b b' : Nat} (h : b' ≠ b) : ∀ (vs : List Value) (o : Nat) (w : World), (w.setCells b o vs).heap[b']? = w.heap[b']?
  | [], o, w => rfl
  | v :: r, o, w => by rw [World.setCells, setCells_heap_ne h r, setCell_heap_ne h]
theorem setCells_size {b : Nat} : ∀ (vs : List Value) (o : Nat) (w : World), (w.setCells b o vs).heap.size = w.heap.size
  | [], o, w => rfl
  | v :: r, o, w => by rw [World.setCells, setCells_size r]; simp [World.setCell]
theorem setCells_env {b : Nat} : ∀ (vs : List Value) (o : Nat) (w : World), (w.setCells b o vs).os = w.os ∧ (w.setCells b o vs).output = w.output
  | [], _, _ => ⟨rfl, rfl⟩
  | v :: r, o, w => setCells_env r (o + 1) (w.setCell ⟨b, o, none⟩ v)
theorem setCells_heap {b : Nat} : ∀ (vs : List Value) (o : Nat) (w : World) (cs : List Value) (el : TypeId) (fr : Nat × Nat), w.heap[b]? = some (.cells cs.toArray el fr) → o + vs.length ≤ cs.length →
    (w.setCells b o vs).heap[b]? = some (.cells (putCs cs o vs).toArray el fr)
  | [], o, w, cs, el, fr, h, hl => by simp [World.setCells, putCs, h]
  | v :: r, o, w, cs, el, fr, h, hl => by
    simp only [List.length_cons] at hl
    have h1 := setCell_heap (o := o) (v := v) h
    have h2 : (w.setCell ⟨b, o, none⟩ v).heap[b]? = some (.cells (cs.set o v).toArray el fr) := by rw [h1]; simp
    rw [World.setCells, setCells_heap r (o + 1) _ (cs.set o v) el fr h2 (by simp; omega)]
    congr 2
    unfold putCs
    have e1 : (cs.set o v).take (o + 1) = cs.take o ++ [v] := by
      rw [List.take_set, List.take_succ_eq_append_getElem (by omega)]
      rw [List.set_append_right _ _ (by simp; omega)]
      simp [Nat.min_eq_left (show o ≤ cs.length by omega)]
    have e2 : (cs.set o v).drop (o + 1 + r.length) = cs.drop (o + 1 + r.length) := by
      rw [List.drop_set_of_lt (by omega)]
    rw [e1, e2]
    simp only [List.append_assoc, List.singleton_append, List.length_cons]
    rw [show o + (r.length + 1) = o + 1 + r.length by omega]
theorem storeVar_run (hP : tabOk P = true) {t : TypeId} {d : TypeDesc} {v : Value} {b o : Nat} {cs : List Value} {el : TypeId} {fr : Nat × Nat} (hu : und P t = some d)
    (hs : v.cells.size = P.cellsOf t) (h1 : ∀ x ∈ v.cells.toList, x.oneCell' = true) (hb : w.heap[b]? = some (.cells cs.toArray el fr)) (hf : NF fr cs.length) (hl : o + v.cells.size ≤ cs.length) :
    (storeVar t ⟨b, o, none⟩ v).run P w = .ok () (w.setCells b o v.cells.toList) := by
  have hcell : ∀ j, j < v.cells.toList.length → (w.cell? ⟨b, o + 0 + j, none⟩).isSome = true := by
    intro j hj
    simp only [Array.length_toList] at hj
    simp only [World.cell?, hb, Nat.add_zero]
    simp only [Option.isSome_none, Bool.false_eq_true, if_false]
    rw [Array.getElem?_eq_getElem (by simp; omega)]
    rfl
  have hfr : ∀ j, j < v.cells.toList.length → w.frozen? ⟨b, o + 0 + j, none⟩ = false := by
    intro j hj
    simp only [Array.length_toList] at hj
    simp only [World.frozen?, hb, Nat.add_zero]
    have := hf (o + j) (by omega)
    simpa using this
  have := run_storeCells_cells (P := P) b o v.cells.toList 0 w hcell hfr h1
  unfold storeVar
  rw [Sem.run_bind, sizeOf_run hu]
  simp only [Result.andThen_ok, hs, ne_eq, not_true_eq_false, if_false, Nat.add_zero] at *
  simpa using this

/-! ### paths into what a variable holds -/
theorem getL {α : Type} {l : List α} {i : Nat} {a : α} (h : l[i]? = some a) : i < l.length := (List.getElem?_eq_some_iff.1 h).1
/-- component i of a mixed struct -/
theorem RepAg.get (hP : tabOk P = true) : ∀ {l : List AV} {ts : List TypeId} {vs : List Value} (i : Nat) {a : AV} {t : TypeId}, RepAg P w S σ ob l ts vs → l[i]? = some a → ts[i]? = some t →
    ∃ A V B, vs = A ++ V ++ B ∧ A.length = sumCells P (ts.take i) ∧ BV P w S σ ob t a V ∧
      ∀ a' V', BV P w S σ ob t a' V' → RepAg P w S σ ob (l.set i a') ts (A ++ V' ++ B)
  | [], ts, vs, i, a, t, h, hf, ht => by simp at hf
  | x :: r, ts, vs, 0, a, t, h, hf, ht => by
    simp only [RepAg] at h
    obtain ⟨t0, ts', v, vs', rfl, rfl, h3, h4, h5, h6⟩ := h
    simp at hf ht
    subst hf; subst ht
    refine ⟨[], v.cells.toList, vs', rfl, rfl, ⟨h4, v, rfl, h5⟩, fun a' V' h' => ?_⟩
    obtain ⟨g1, v', rfl, g2⟩ := h'
    simp only [List.set_cons_zero, RepAg, List.nil_append]
    exact ⟨t0, ts', v', vs', rfl, rfl, (fits_size hP a' t0 v' g1 g2).1, g1, g2, h6⟩
  | x :: r, ts, vs, i + 1, a, t, h, hf, ht => by
    simp only [RepAg] at h
    obtain ⟨t0, ts', v, vs', rfl, rfl, h3, h4, h5, h6⟩ := h
    simp at hf ht
    obtain ⟨A, V, B, rfl, hA, hV, hs⟩ := RepAg.get hP i h6 hf ht
    refine ⟨v.cells.toList ++ A, V, B, by simp, by simp only [List.length_append, List.take_succ_cons, sumCells, hA, Array.length_toList, h3], hV, fun a' V' h' => ?_⟩
    simp only [List.set_cons_succ, RepAg]
    exact ⟨t0, ts', v, A ++ V' ++ B, rfl, by simp, h3, h4, h5, hs a' V' h'⟩
/-- a path of the type leads somewhere -/
theorem nav_total (hP : tabOk P = true) : ∀ (p : List Nat) (x : D) (t : TypeId) (vs : List Value) (off : Nat) (u : TypeId), RepT P w S x t vs → offP P t p = some (off, u) →
    ∃ r : Unit, navD p x (fun _ => some ()) = some r
  | [], x, t, vs, off, u, h, ho => ⟨(), rfl⟩
  | i :: p, x, t, vs, off, u, h, ho => by
    cases x with
    | agg ys =>
      simp only [RepT] at h
      simp only [navD, dAgg, lGet]
      rcases h with ⟨flds, h1, h2⟩ | ⟨n, e, h1, h2, h3⟩
      · simp only [offP, h1] at ho
        cases hf : flds[i]? with
        | none => simp [hf] at ho
        | some f =>
          simp only [hf] at ho
          obtain ⟨x1, hx1, hx2⟩ := Option.map_eq_some_iff.1 ho
          have hfl : flds.toList[i]? = some f := by simpa using hf
          have hlen := RepFs.len h2
          simp only [List.length_map] at hlen
          have hi := getL hfl
          obtain ⟨y, hy⟩ : ∃ y, ys[i]? = some y := ⟨_, List.getElem?_eq_getElem (by omega)⟩
          obtain ⟨a, v, b, _, _, hv, _⟩ := RepFs.get hP i h2 hy (t := f.type) (by simp [hfl])
          simp only [hy]
          exact nav_total hP p y f.type v x1.1 x1.2 hv (by rw [hx1])
      · simp only [offP, h1] at ho
        split at ho
        · rename_i hin
          obtain ⟨x1, hx1, hx2⟩ := Option.map_eq_some_iff.1 ho
          obtain ⟨y, hy⟩ : ∃ y, ys[i]? = some y := ⟨_, List.getElem?_eq_getElem (by omega)⟩
          obtain ⟨a, v, b, _, _, hv, _⟩ := RepFs.get hP i h3 hy (t := e) (by simp [hin])
          simp only [hy]
          exact nav_total hP p y e v x1.1 x1.2 hv (by rw [hx1])
        · simp at ho
    | int _ _ => simp only [RepT] at h; simp [offP, h.1] at ho
    | bool _ => simp only [RepT] at h; simp [offP, h.1] at ho
    | str _ => simp only [RepT] at h; simp [offP, h.1] at ho
    | slice _ _ => simp only [RepT] at h; obtain ⟨e, a, cap, h1, _⟩ := h; simp [offP, h1] at ho
/-- what is found in it -/
def Found (P : Program) (w : World) (S : Addr → Prop) (σ : Loc) (ob : Objs) (u : TypeId) (V : List Value) : AV ⊕ D → Prop
  | .inl a => BV P w S σ ob u a V
  | .inr y => RepT P w S y u V
theorem BV.under (hP : tabOk P = true) {t a vs} (h : BV P w S σ ob t a vs) : BV P w S σ ob (underId P t) a vs := by
  obtain ⟨h1, h2⟩ := h
  obtain ⟨d, hd⟩ := fits_has h1
  exact ⟨fits_ty hP (underId_spec hP hd).2.2.2.symm h1 ⟨d, (underId_spec hP hd).1⟩, h2⟩
theorem navA_ok (hP : tabOk P = true) : ∀ (p : List Nat) (a : AV) (t : TypeId) (vs : List Value) (off : Nat) (u : TypeId) (K : AV ⊕ D → Option R) (r : R),
    BV P w S σ ob t a vs → offP P t p = some (off, u) → navA P p a K = some r →
    ∃ res A V B, K res = some r ∧ vs = A ++ V ++ B ∧ A.length = off ∧ Found P w S σ ob u V res
  | [], a, t, vs, off, u, K, r, h, ho, hn => by
    simp only [offP] at ho
    obtain ⟨dn, hdn, ho⟩ := Option.map_eq_some_iff.1 ho
    simp only [Prod.mk.injEq] at ho
    obtain ⟨rfl, rfl⟩ := ho
    simp only [navA] at hn
    exact ⟨_, [], vs, [], hn, by simp, rfl, h.under hP⟩
  | i :: p, a, t, vs, off, u, K, r, h, ho, hn => by
    cases a with
    | d t' x =>
      simp only [navA] at hn
      have hx : RepT P w S x t vs := toD_rep hP h rfl
      obtain ⟨y, A, V, B, hK, hv, hA, hy, _⟩ := navD_ok hP (i :: p) x t vs off u _ r hx ho hn
      exact ⟨_, A, V, B, hK, hv, hA, hy⟩
    | agg t' l =>
      simp only [navA] at hn
      obtain ⟨h1, v, rfl, h2⟩ := h
      rcases fits_spec h1 with ⟨_, _, e, _⟩ | ⟨_, _, _, e, _⟩ | ⟨_, e, _⟩ | ⟨_, f, e, hu⟩ | ⟨_, _, _, _, _, e, _⟩ | h1
      all_goals try (cases e; done)
      · cases e
        simp only [RepA] at h2
        obtain ⟨cs, flds, rfl, h2, h3⟩ := h2
        rw [(underId_spec hP hu).1] at h2
        cases h2
        simp only [offP, hu] at ho
        cases hl : l[i]? with
        | none => simp [hl] at hn
        | some a =>
          simp only [hl] at hn
          cases hf : f[i]? with
          | none => simp [hf] at ho
          | some fl =>
            simp only [hf] at ho
            obtain ⟨x1, hx1, hx2⟩ := Option.map_eq_some_iff.1 ho
            simp only [Prod.mk.injEq] at hx2
            have hfl : f.toList[i]? = some fl := by simpa using hf
            obtain ⟨A, V, B, rfl, hA, hV, _⟩ := RepAg.get hP i h3 hl (t := fl.type) (by simp [hfl])
            obtain ⟨res, A1, V1, B1, hK, rfl, hA1, hF⟩ := navA_ok hP p a fl.type V x1.1 x1.2 K r hV (by rw [hx1]) hn
            refine ⟨res, A ++ A1, V1, B1 ++ B, hK, by simp [Value.cells], ?_, hx2.2 ▸ hF⟩
            rw [List.length_append, hA, hA1, ← hx2.1, offsOk_get (cells_struct hP hu).1 hfl]; omega
      · rcases isTy_spec h1 with ⟨_, _, e, _⟩ | ⟨_, e, _⟩ | ⟨_, e, _⟩ | ⟨_, e, _⟩ | ⟨_, _, _, e, _⟩ | ⟨_, _, e, _, _⟩ <;> cases e
    | _ => simp [navA] at hn
/-- a data struct's fields, one by one -/
theorem spread_ok (hP : tabOk P = true) : ∀ (ys : List D) (fs : List Field) (vs : List Value), RepFs P w S ys (fs.map (·.type)) vs →
    RepAg P w S σ ob ((fs.zip ys).map fun p => fromD P p.1.type p.2) (fs.map (·.type)) vs
  | [], fs, vs, h => by
    simp only [RepFs] at h
    obtain ⟨h1, h2⟩ := h
    cases fs with
    | nil => simp [RepAg, h2]
    | cons _ _ => simp at h1
  | y :: r, fs, vs, h => by
    simp only [RepFs] at h
    obtain ⟨t, ts', v1, v2, h1, rfl, h3, h4⟩ := h
    cases fs with
    | nil => simp at h1
    | cons f fs =>
      simp only [List.map_cons, List.cons.injEq] at h1
      obtain ⟨rfl, rfl⟩ := h1
      simp only [List.zip_cons_cons, List.map_cons, RepAg]
      exact ⟨f.type, _, valOf P f.type v1, v2, rfl, by rw [valOf_cells hP h3], (fits_size hP _ _ _ (fromD_fits hP h3) (fromD_ok (σ := σ) (ob := ob) hP h3)).1, fromD_fits hP h3, fromD_ok hP h3, spread_ok hP r fs v2 h4⟩
theorem setA_ok (hP : tabOk P = true) : ∀ (p : List Nat) (a : AV) (t : TypeId) (vs : List Value) (off : Nat) (u : TypeId) (x a' : AV) (V' : List Value),
    BV P w S σ ob t a vs → offP P t p = some (off, u) → setA P p a x = some a' → BV P w S σ ob u x V' →
    ∃ A V B, vs = A ++ V ++ B ∧ A.length = off ∧ V.length = V'.length ∧ BV P w S σ ob t a' (A ++ V' ++ B)
  | [], a, t, vs, off, u, x, a', V', h, ho, hs, hx => by
    simp only [offP] at ho
    obtain ⟨dn, hdn, ho⟩ := Option.map_eq_some_iff.1 ho
    simp only [Prod.mk.injEq] at ho
    obtain ⟨rfl, rfl⟩ := ho
    simp only [setA, Option.some.injEq] at hs
    subst hs
    obtain ⟨d, hd⟩ := fits_has h.1
    have hx' : BV P w S σ ob t x V' := ⟨fits_ty hP (underId_spec hP hd).2.2.2 hx.1 ⟨d, hd⟩, hx.2⟩
    refine ⟨[], vs, [], by simp, rfl, ?_, by simpa using hx'⟩
    rw [(h.size hP).1, (hx'.size hP).1]
  | i :: p, a, t, vs, off, u, x, a', V', h, ho, hs, hx => by
    cases a with
    | d t' y =>
      have hy : RepT P w S y t vs := toD_rep hP h rfl
      have htd : t' = underId P t ∧ ∃ d, und P t = some d ∧ ((∃ f, d = .struct f) ∨ ∃ n e, d = .array n e) := by
        rcases fits_spec h.1 with ⟨_, _, e, _⟩ | ⟨_, _, _, e, _⟩ | ⟨_, e, _⟩ | ⟨_, f, e, hu⟩ | ⟨_, _, _, _, _, e, _⟩ | h1
        all_goals try (cases e; done)
        rcases isTy_spec h1 with ⟨_, _, e, _⟩ | ⟨_, e, _⟩ | ⟨_, e, _⟩ | ⟨_, e, _⟩ | ⟨_, _, _, e, _⟩ | ⟨_, d, e, hu, hk⟩ <;> cases e
        exact ⟨rfl, d, hu, hk⟩
      obtain ⟨rfl, dd, hdd, hk⟩ := htd
      obtain ⟨_, _, _, ys, rfl⟩ : ∃ cs : List Value, True ∧ True ∧ ∃ ys, y = .agg ys := by
        obtain ⟨_, v, _, h2⟩ := h
        simp only [RepA] at h2
        obtain ⟨cs, _, _, ys, rfl⟩ := h2
        exact ⟨cs, trivial, trivial, ys, rfl⟩
      simp only [setA] at hs
      cases hd : toD x with
      | some z =>
        simp only [hd, Option.some.injEq] at hs
        subst hs
        have hz := toD_rep hP hx hd
        have hnav := nav_total hP (i :: p) (.agg ys) t vs off u hy ho
        obtain ⟨r, hr⟩ := hnav
        obtain ⟨y1, A, V, B, _, hv, hA, hV, hset⟩ := navD_ok hP (i :: p) (.agg ys) t vs off u _ r hy ho hr
        refine ⟨A, V, B, hv, hA, by rw [RepT.size hP _ _ _ hV, RepT.size hP _ _ _ hz], ?_⟩
        have := hset z V' hz
        have hb := BV.ofD (σ := σ) (ob := ob) hP this
        have he : setD (i :: p) (.agg ys) z = .agg (match setD (i :: p) (.agg ys) z with | .agg q => q | _ => []) := by
          cases p <;> rfl
        rw [he] at hb ⊢
        exact hb
      | none =>
        simp only [hd] at hs
        cases p with
        | nil =>
          cases hsp : spread P (underId P t) (.agg ys) with
          | none => simp [hsp] at hs
          | some l =>
            simp only [hsp, Option.some.injEq] at hs
            subst hs
            have hdu : ds P (underId P t) = dd := ds_of (underId_spec hP hdd).1
            simp only [spread, hdu] at hsp
            rcases hk with ⟨f, rfl⟩ | ⟨n, e, rfl⟩
            · simp only [Option.some.injEq] at hsp
              subst hsp
              simp only [RepT, hdd] at hy
              rcases hy with ⟨f', e, hy⟩ | ⟨n, e, e', _⟩
              · cases e
                have hag := spread_ok (σ := σ) (ob := ob) hP ys f.toList vs hy
                simp only [offP, hdd] at ho
                cases hf : f[i]? with
                | none => simp [hf] at ho
                | some fl =>
                  simp only [hf] at ho
                  obtain ⟨x1, hx1, ho⟩ := Option.map_eq_some_iff.1 ho
                  obtain ⟨_, _, rfl⟩ := Option.map_eq_some_iff.1 hx1
                  simp only [Prod.mk.injEq] at ho
                  have hfl : f.toList[i]? = some fl := by simpa using hf
                  have hlen := RepFs.len hy
                  simp only [List.length_map] at hlen
                  have hi := getL hfl
                  obtain ⟨yi, hyi⟩ : ∃ yi, ys[i]? = some yi := ⟨_, List.getElem?_eq_getElem (by omega)⟩
                  obtain ⟨A, V, B, rfl, hA, hV, hset⟩ := RepAg.get hP i hag (a := fromD P fl.type yi) (t := fl.type) (by
                    simp only [List.getElem?_map, (List.getElem?_zip_eq_some (i := i) (z := (fl, yi))).2 ⟨hfl, hyi⟩, Option.map_some]) (by simp [hfl])
                  have hft : ∃ d, und P fl.type = some d := fits_has hV.1
                  obtain ⟨df, hdf⟩ := hft
                  have hx' : BV P w S σ ob fl.type x V' := ⟨fits_ty hP (by rw [← ho.2]; exact (underId_spec hP hdf).2.2.2) hx.1 ⟨df, hdf⟩, hx.2⟩
                  refine ⟨A, V, B, rfl, ?_, by rw [(hV.size hP).1, (hx'.size hP).1], ?_⟩
                  · rw [hA, ← ho.1, offsOk_get (cells_struct hP hdd).1 hfl]; omega
                  · refine ⟨by simp [fits, isTy, ds_of hdd], .agg (A ++ V' ++ B).toArray, by simp [Value.cells], ?_⟩
                    simp only [RepA]
                    exact ⟨_, f, rfl, (underId_spec hP hdd).1, hset x V' hx'⟩
              · cases e'
            · simp at hsp
        | cons j q => simp at hs
    | agg t' l =>
      simp only [setA] at hs
      cases hl : l[i]? with
      | none => simp [hl] at hs
      | some a0 =>
        simp only [hl] at hs
        cases hs0 : setA P p a0 x with
        | none => simp [hs0] at hs
        | some a1 =>
          simp only [hs0, Option.some.injEq] at hs
          subst hs
          obtain ⟨h1, v, rfl, h2⟩ := h
          rcases fits_spec h1 with ⟨_, _, e, _⟩ | ⟨_, _, _, e, _⟩ | ⟨_, e, _⟩ | ⟨_, f, e, hu⟩ | ⟨_, _, _, _, _, e, _⟩ | h1
          all_goals try (cases e; done)
          · cases e
            simp only [RepA] at h2
            obtain ⟨cs, flds, rfl, h2, h3⟩ := h2
            rw [(underId_spec hP hu).1] at h2
            cases h2
            simp only [offP, hu] at ho
            cases hf : f[i]? with
            | none => simp [hf] at ho
            | some fl =>
              simp only [hf] at ho
              obtain ⟨x1, hx1, hx2⟩ := Option.map_eq_some_iff.1 ho
              simp only [Prod.mk.injEq] at hx2
              have hfl : f.toList[i]? = some fl := by simpa using hf
              obtain ⟨A, V, B, rfl, hA, hV, hset⟩ := RepAg.get hP i h3 hl (t := fl.type) (by simp [hfl])
              obtain ⟨A1, V1, B1, rfl, hA1, hlen, hb⟩ := setA_ok hP p a0 fl.type V x1.1 x1.2 x a1 V' hV (by rw [hx1]) hs0 (by rw [hx2.2]; exact hx)
              refine ⟨A ++ A1, V1, B1 ++ B, by simp [Value.cells], ?_, hlen, ?_⟩
              · rw [List.length_append, hA, hA1, ← hx2.1, offsOk_get (cells_struct hP hu).1 hfl]; omega
              · refine ⟨by simp [fits, ds_of hu], .agg (A ++ (A1 ++ V' ++ B1) ++ B).toArray, by simp [Value.cells], ?_⟩
                simp only [RepA]
                exact ⟨_, f, rfl, (underId_spec hP hu).1, hset a1 _ hb⟩
          · rcases isTy_spec h1 with ⟨_, _, e, _⟩ | ⟨_, e, _⟩ | ⟨_, e, _⟩ | ⟨_, e, _⟩ | ⟨_, _, _, e, _⟩ | ⟨_, _, e, _, _⟩ <;> cases e
    | _ => simp [setA] at hs
end
end Go.Proofs.YtjbemleloffafaaDoor.V
