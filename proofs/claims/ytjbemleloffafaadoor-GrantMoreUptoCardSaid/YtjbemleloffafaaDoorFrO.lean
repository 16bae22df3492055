/- Operations. Part six: literals, new rows, lengths. -/
import Derived.Test.YtjbemleloffafaaDoorFrN
namespace Go.Proofs.YtjbemleloffafaaDoor.V
open Go
set_option linter.unusedVariables false
set_option linter.unusedSimpArgs false

section
variable {Γ : Ctx} {w0 : World} {S0 : Addr → Prop} {X : XB} {w w' : World} {S S' : Addr → Prop} {σ σ' : Loc} {ob ob' : Objs} {R : Type}

theorem run_mapM_list {α β : Type} {P : Program} (f : α → Sem β) (g : α → β) (w : World) : ∀ (l : List α), (∀ a ∈ l, (f a).run P w = .ok (g a) w) → (l.mapM f).run P w = .ok (l.map g) w
  | [], _ => by simp
  | a :: r, h => by
    have h1 := h a (by simp)
    have h2 := run_mapM_list f g w r (fun b hb => h b (by simp [hb]))
    simp only [List.mapM_cons, Sem.run_bind, h1, Result.andThen_ok, h2, Sem.run_pure, List.map_cons]
theorem run_mapM_array {α β : Type} {P : Program} (f : α → Sem β) (g : α → β) (w : World) (l : Array α) (h : ∀ a ∈ l.toList, (f a).run P w = .ok (g a) w) : (l.mapM f).run P w = .ok (l.map g) w := by
  rw [Array.mapM_eq_mapM_toList, Sem.run_map, run_mapM_list f g w l.toList h]
  simp only [Result.andThen_ok, Result.ok.injEq, and_true]
  apply Array.ext'
  simp
theorem zeroValue_und {t : TypeId} {z : Value} (h : (zeroValue t).run Γ.P w = .ok z w) : (zeroValue t).run Γ.P w' = .ok z w' := by
  unfold zeroValue typeInfo at h ⊢
  cases hi : Γ.P.info? t with
  | none => simp [hi] at h
  | some i =>
    simp only [Sem.run_bind, run_program, Result.andThen_ok, hi, Sem.run_pure] at h ⊢
    cases hz : i.zero with
    | none => simp [hz] at h
    | some v => simp only [hz, Sem.run_pure, Result.ok.injEq, and_true] at h ⊢; exact h

/-- a struct's, an array's literal -/
theorem build_ok (hP : tabOk Γ.P = true) (hZ : zeroOk Γ.P = true) {t : TypeId} {ps : List (Nat × AV)} {cps : Array (Nat × Value)} {K : AV → Option R} {r : R} (h : opBuild Γ.P t ps K = some r)
    (hl : cps.toList.length = ps.length) (hc : ∀ (k : Nat) (p : Nat × AV), ps[k]? = some p → ∃ v, cps.toList[k]? = some (p.1, v) ∧ RepA Γ.P w S σ ob p.2 v) :
    ∃ av, K av = some r ∧ ∃ cv, RepA Γ.P w S σ ob av cv ∧ (Instr.build t cps).run Γ.P w = .ok cv w := by
  unfold opBuild at h
  obtain ⟨hrf, h⟩ := cond_some h
  simp only [Bool.and_eq_true] at hrf
  have hf := hrf.2
  have hagg : ∃ d, und Γ.P t = some d ∧ ((∃ fs, d = .struct fs) ∨ ∃ n e, d = .array n e) := by
    have h1 := hrf.1
    unfold rowT at h1
    split at h1
    · rename_i fs hd; exact ⟨_, ds_some hd (by simp), .inl ⟨_, rfl⟩⟩
    · rename_i n e hd; exact ⟨_, ds_some hd (by simp), .inr ⟨_, _, rfl⟩⟩
    · exact absurd h1 (by simp)
  split at h
  · rename_i a hfill
    obtain ⟨z, hz, hb⟩ := zero_ok (w := w) (S := S) (σ := σ) (ob := ob) hP hZ hf
    obtain ⟨d, hd, hrow⟩ := hagg
    have fin : ∀ {place : Nat → Option (Nat × Nat)}, (∀ i ft, partT Γ.P t i = some ft → ∃ off, offP Γ.P t [i] = some (off, underId Γ.P ft) ∧ place i = some (off, Γ.P.cellsOf ft)) →
        ∃ cs : List Value, Instr.fill place z.cells cps.toList = some cs.toArray ∧ RepA Γ.P w S σ ob a (.agg cs.toArray) := by
      intro place hpl
      obtain ⟨cs, h1, hfa, v, h2, h3⟩ := fillA_ok hP hd hpl ps cps.toList _ a z.cells.toList hb hfill hl hc
      refine ⟨cs, by simpa using h1, ?_⟩
      have hv : v = .agg cs.toArray := by
        have : ∃ l, v = .agg l := by
          rcases fits_spec hfa with ⟨_, _, _, e⟩ | ⟨_, _, _, _, e⟩ | ⟨_, _, e⟩ | ⟨_, _, rfl, _⟩ | ⟨_, _, _, _, _, _, e⟩ | hi
          · rw [hd] at e; cases e; simp at hrow
          · rw [hd] at e; cases e; simp at hrow
          · rw [hd] at e; cases e; simp at hrow
          · simp only [RepA] at h3; obtain ⟨cs, _, rfl, _⟩ := h3; exact ⟨_, rfl⟩
          · rw [hd] at e; cases e; simp at hrow
          · rcases isTy_spec hi with ⟨_, _, _, e⟩ | ⟨_, _, e⟩ | ⟨_, _, e⟩ | ⟨_, _, e⟩ | ⟨_, _, _, _, e⟩ | ⟨_, _, rfl, _, _⟩
            · rw [hd] at e; cases e; simp at hrow
            · rw [hd] at e; cases e; simp at hrow
            · rw [hd] at e; cases e; simp at hrow
            · rw [hd] at e; cases e; simp at hrow
            · rw [hd] at e; cases e; simp at hrow
            · simp only [RepA] at h3; obtain ⟨cs, rfl, _⟩ := h3; exact ⟨_, rfl⟩
        obtain ⟨l, rfl⟩ := this
        congr 1
        apply Array.ext'
        simpa [Value.cells] using h2
      exact hv ▸ h3
    cases d with
    | struct fs =>
      have hpl : (fs.mapM fun f => do pure (f.offset, ← sizeOf f.type) : Sem _).run Γ.P w = .ok (fs.map fun f => (f.offset, Γ.P.cellsOf f.type)) w := by
        refine run_mapM_array _ _ w fs fun f hf => ?_
        obtain ⟨i, hi⟩ := List.mem_iff_getElem?.1 hf
        obtain ⟨dd, hdd⟩ := field_und hP hd (i := i) (f := f) (by simpa using hi)
        simp [sizeOf_run hdd]
      obtain ⟨cs, h1, h2⟩ := fin (place := ((fs.map fun f => (f.offset, Γ.P.cellsOf f.type))[·]?)) (by
        intro i ft hft
        simp only [partT, ds_of hd] at hft
        obtain ⟨f, hf, rfl⟩ := Option.map_eq_some_iff.1 hft
        obtain ⟨dd, hdd⟩ := field_und hP hd hf
        exact ⟨f.offset, by simp only [offP, hd, hf, hdd, Option.map_some, Nat.add_zero], by simp [hf]⟩)
      refine ⟨a, h, _, h2, ?_⟩
      simp only [Instr.build, Sem.run_bind, hz, Result.andThen_ok, run_underlying (und_lt hd).2, hpl, h1, Sem.run_pure]
    | array n e =>
      obtain ⟨dd, hdd⟩ := elem_array hP hd
      obtain ⟨cs, h1, h2⟩ := fin (place := fun i => some (i * Γ.P.cellsOf e, Γ.P.cellsOf e)) (by
        intro i ft hft
        simp only [partT, ds_of hd] at hft
        cases hin : Nat.blt i n with
        | false => simp [hin] at hft
        | true =>
          simp [hin] at hft
          subst hft
          have : i < n := by simpa [Nat.blt_eq] using hin
          exact ⟨i * Γ.P.cellsOf e, by simp only [offP, hd, this, if_true, hdd, Option.map_some, Nat.add_zero], rfl⟩)
      refine ⟨a, h, _, h2, ?_⟩
      simp only [Instr.build, Sem.run_bind, hz, Result.andThen_ok, run_underlying (und_lt hd).2, sizeOf_run hdd, h1, Sem.run_pure]
    | _ => simp at hrow
  · exact absurd h (by simp)

/-! ### rows -/
theorem RowV.ofFs {P : Program} (hP : tabOk P = true) : ∀ {xs : List D} {e : TypeId} {b o n : Nat} {vs : List Value}, RepFs P w S xs (List.replicate n e) vs → w.rangeAt b o vs → RowV P w S xs e b o
  | [], e, b, o, n, vs, h, hr => by simp only [RowV]
  | d :: r, e, b, o, 0, vs, h, hr => by simp [RepFs] at h
  | d :: r, e, b, o, n + 1, vs, h, hr => by
    simp only [RepFs, List.replicate_succ, List.cons.injEq] at h
    obtain ⟨t, ts', v1, v2, ⟨rfl, rfl⟩, rfl, h3, h4⟩ := h
    have hs := RepT.size hP _ _ _ h3
    simp only [RowV]
    refine ⟨v1, fun j v hv => hr j v (by rw [List.getElem?_append_left (getL hv)]; exact hv), h3, RowV.ofFs hP h4 fun j v hv => ?_⟩
    have := hr (v1.length + j) v (by rw [List.getElem?_append_right (by omega), show v1.length + j - v1.length = j by omega]; exact hv)
    rw [← hs, Nat.add_assoc]; exact this
theorem RowV.under {P : Program} (hP : tabOk P = true) {d : TypeDesc} {e : TypeId} (he : und P e = some d) : ∀ {xs : List D} {b o : Nat}, RowV P w S xs e b o → RowV P w S xs (underId P e) b o
  | [], b, o, h => by simp only [RowV]
  | x :: r, b, o, h => by
    simp only [RowV] at h ⊢
    obtain ⟨vs, h1, h2, h3⟩ := h
    exact ⟨vs, h1, h2.under hP, by rw [(underId_spec hP he).2.1]; exact RowV.under hP he h3⟩
theorem zeros_fs {P : Program} {z : D} {e : TypeId} {zs : List Value} (h : RepT P w S z e zs) : ∀ n, RepFs P w S (List.replicate n z) (List.replicate n e) (List.replicate n zs).flatten
  | 0 => by simp [RepFs]
  | n + 1 => by
    simp only [List.replicate_succ, RepFs, List.flatten_cons]
    exact ⟨e, _, zs, _, rfl, rfl, h, zeros_fs h n⟩
theorem zeros_cells {zs : Array Value} (n sz : Nat) (hz : zs.size = sz) : ((Array.range (n * sz)).map (zs[· % zs.size]!)).toList = (List.replicate n zs.toList).flatten := by
  apply List.ext_getElem?
  intro i
  subst hz
  by_cases hi : i < n * zs.size
  · have hpos : 0 < zs.size := by
      rcases Nat.eq_zero_or_pos zs.size with h | h
      · rw [h] at hi; simp at hi
      · exact h
    have h1 : i / zs.size < n := Nat.div_lt_of_lt_mul (by rw [Nat.mul_comm]; exact hi)
    have h2 : i % zs.size < zs.size := Nat.mod_lt _ hpos
    have key : ∀ (m j q : Nat), q < m → j < zs.size → (List.replicate m zs.toList).flatten[q * zs.size + j]? = zs.toList[j]? := by
      intro m
      induction m with
      | zero => intro j q hq; omega
      | succ m ih =>
        intro j q hq hj
        simp only [List.replicate_succ, List.flatten_cons]
        cases q with
        | zero => rw [List.getElem?_append_left (by simp; omega)]; simp
        | succ q =>
          rw [List.getElem?_append_right (by simp [Nat.succ_mul]; omega), show (q + 1) * zs.size + j - zs.toList.length = q * zs.size + j by simp [Nat.succ_mul]; omega]
          exact ih j q (by omega) hj
    have := key n (i % zs.size) (i / zs.size) h1 h2
    rw [show i / zs.size * zs.size + i % zs.size = i by rw [Nat.mul_comm]; exact Nat.div_add_mod i zs.size] at this
    rw [this]
    simp [hi, h2]
  · rw [List.getElem?_eq_none (by simp; omega), List.getElem?_eq_none (by simp; omega)]
/-- a new block: a row of the call's own -/
theorem newArr_ok (hP : tabOk Γ.P = true) (hM : MemOK Γ w0 S0 X w S σ ob) {e el : TypeId} {d : TypeDesc} {xs : List D} {cs : Array Value} {cap : Nat} {fr : Nat × Nat} (fz : Bool) (he : und Γ.P e = some d)
    (hw : w'.heap = w.heap.push (.cells cs el fr))
    (hcs : cs.size = cap * Γ.P.cellsOf e) (hle : xs.length ≤ cap) {vs : List Value} (hv : RepFs Γ.P w S xs (List.replicate xs.length e) vs) (hpre : ∀ (j : Nat) (v : Value), vs[j]? = some v → cs.toList[j]? = some v) (hnf : NF fr cs.size := by intro o _ h; simp at h) (hev : w'.os = w.os ∧ w'.output = w.output := by exact ⟨rfl, rfl⟩) (hel : underId Γ.P el = underId Γ.P e ∧ Γ.P.cellsOf el = Γ.P.cellsOf e := by exact ⟨rfl, rfl⟩) :
    ∃ σ', Trans Γ w0 S0 X w S σ ob w' S σ' (ob ++ [some (.arr (underId Γ.P e) xs fz)]) ∧
      RepA Γ.P w' S σ' (ob ++ [some (.arr (underId Γ.P e) xs fz)]) (.ref (underId Γ.P e) ob.length) (.slice (some ⟨w.heap.size, 0, none⟩) xs.length cap) := by
  obtain ⟨u1, u2, _, u4⟩ := underId_spec hP he
  have t1 : Trans Γ w0 S0 X w S σ ob w' S σ ob := hM.more (fun b hb => by rw [hw]; simp only [Array.getElem?_push]; rw [if_neg (by omega)]) (by rw [hw]; simp) (fun _ h => h) (fun _ h => .inl h) hev
  have k1 : Keeps w S w' S := fun y hy => ⟨cell_of_heap (by have := hM.sin y hy; rw [hw]; simp only [Array.getElem?_push]; rw [if_neg (by omega)]), hy⟩
  have hblk : w'.heap[w.heap.size]? = some (.cells cs el fr) := by rw [hw]; simp
  have hrow : RowV Γ.P w' S xs e w.heap.size 0 := RowV.ofFs hP (RepFs.keep k1 _ _ _ hv) (fun j v hj => by
    have := hpre j v hj
    simp only [World.cell?, hblk, Option.isSome_none, Bool.false_eq_true, if_false, Nat.zero_add]
    simpa using this)
  have t2 := MemOK.add t1.1 (o := .arr (underId Γ.P e) xs fz) (b := w.heap.size) (c := cap) (by rw [hw]; simp) (.inr hM.grow)
    (fun j o' ho => by have := (hM.own j o' ho).2; omega) (by
      simp only [ObjAt, more_new]
      exact ⟨cs, el, fr, hblk, hnf, by rw [u2]; exact hcs, hle, hrow.under hP he, ⟨⟨d, u1⟩, hel.1, hel.2.trans u2.symm⟩, fun y hy hyb => by have := hM.sin y hy; omega⟩)
  refine ⟨_, t1.trans t2, ?_⟩
  simp only [RepA]
  refine ⟨by simp, _, _, _, rfl, fun e' xs' fz hc => ?_⟩
  rcases get_more hc with ⟨hl, _⟩ | ⟨_, he'⟩
  · omega
  · cases he'
    rw [more_new]
    exact ⟨rfl, rfl, rfl, rfl⟩
/-- a new block of data -/
theorem newData_ok (hP : tabOk Γ.P = true) (hM : MemOK Γ w0 S0 X w S σ ob) {e el : TypeId} {d : TypeDesc} {xs : List D} {cs : Array Value} {cap : Nat} {c : Cp} {fr : Nat × Nat} (he : und Γ.P e = some d)
    (hw : w'.heap = w.heap.push (.cells cs el fr))
    (hc : CapOK c (some ⟨w.heap.size, 0, none⟩) xs.length cap) {vs : List Value} (hv : RepFs Γ.P w S xs (List.replicate xs.length e) vs) (hpre : ∀ (j : Nat) (v : Value), vs[j]? = some v → cs.toList[j]? = some v) (hev : w'.os = w.os ∧ w'.output = w.output := by exact ⟨rfl, rfl⟩) :
    ∃ S', Trans Γ w0 S0 X w S σ ob w' S' σ ob ∧ RepA Γ.P w' S' σ ob (.sl (underId Γ.P e) c xs) (.slice (some ⟨w.heap.size, 0, none⟩) xs.length cap) := by
  obtain ⟨u1, u2, _, u4⟩ := underId_spec hP he
  let S' : Addr → Prop := fun y => S y ∨ y.block = w.heap.size
  have hb : ∀ b, b < w.heap.size → w'.heap[b]? = w.heap[b]? := fun b hb => by rw [hw]; simp only [Array.getElem?_push]; rw [if_neg (by omega)]
  have t1 : Trans Γ w0 S0 X w S σ ob w' S' σ ob := hM.more hb (by rw [hw]; simp) (fun _ h => .inl h) (fun y h => h.imp id fun h => by rw [h, hw]; simp) hev
  have k1 : Keeps w S w' S' := fun y hy => ⟨cell_of_heap (hb _ (hM.sin y hy)), .inl hy⟩
  have hblk : w'.heap[w.heap.size]? = some (.cells cs el fr) := by rw [hw]; simp
  have hrow : RowV Γ.P w' S' xs e w.heap.size 0 := RowV.ofFs hP (RepFs.keep k1 _ _ _ hv) (fun j v hj => by
    have := hpre j v hj
    simp only [World.cell?, hblk, Option.isSome_none, Bool.false_eq_true, if_false, Nat.zero_add]
    simpa using this)
  refine ⟨S', t1, ?_⟩
  simp only [RepA]
  exact ⟨_, _, rfl, hc, .inr ⟨_, _, rfl, RowV.toRep hP (fun n _ _ => .inr rfl) (hrow.under hP he)⟩⟩
end
end Go.Proofs.YtjbemleloffafaaDoor.V
