/- FrO, FrP, FrQ, FrR, FrAB, FrAE, FrS, FrT, FrU, FrAC: texts of this claim, put together in build order by program. -/
import Derived.Test.YtapaenfafjmljaaBa
import Derived.Laws.BitsLemmas
import Derived.Deep.AppendSrc
import Derived.Laws.BytesString
import Derived.Lib.UnsafeStr
import Derived.Lib.Builder
/- Operations. Part six: literals, new rows, lengths. -/
namespace Go.Proofs.Ytapaenfafjmljaa.V
open Go
set_option linter.unusedVariables false
set_option linter.unusedSimpArgs false

section
variable {Γ : Ctx} {w0 : World} {S0 : Addr → Prop} {X : XB} {w w' : World} {S S' : Addr → Prop} {σ σ' : Loc} {ob ob' : Objs} {R : Type}

theorem run_mapM_list {α β : Type} {P : Program} (f : α → Sem β) (g : α → β) (w : World) : ∀ (l : List α), (∀ a ∈ l, (f a).run P w = .ok (g a) w) → (l.mapM f).run P w = .ok (l.map g) w
  | [], _ => by simp
  | a :: r, h => by
    have h1 := h a (by simp)
    have h2 := run_mapM_list f g w r (fun b hb => h b (by simp [hb]))
    simp only [List.mapM_cons, Sem.run_bind, h1, Result.andThen_ok, h2, Sem.run_pure, List.map_cons]
theorem run_mapM_array {α β : Type} {P : Program} (f : α → Sem β) (g : α → β) (w : World) (l : Array α) (h : ∀ a ∈ l.toList, (f a).run P w = .ok (g a) w) : (l.mapM f).run P w = .ok (l.map g) w := by
  rw [Array.mapM_eq_mapM_toList, Sem.run_map, run_mapM_list f g w l.toList h]
  simp only [Result.andThen_ok, Result.ok.injEq, and_true]
  apply Array.ext'
  simp
theorem zeroValue_und {t : TypeId} {z : Value} (h : (zeroValue t).run Γ.P w = .ok z w) : (zeroValue t).run Γ.P w' = .ok z w' := by
  unfold zeroValue typeInfo at h ⊢
  cases hi : Γ.P.info? t with
  | none => simp [hi] at h
  | some i =>
    simp only [Sem.run_bind, run_program, Result.andThen_ok, hi, Sem.run_pure] at h ⊢
    cases hz : i.zero with
    | none => simp [hz] at h
    | some v => simp only [hz, Sem.run_pure, Result.ok.injEq, and_true] at h ⊢; exact h

/-- a struct's, an array's literal -/
theorem build_ok (hP : tabOk Γ.P = true) (hZ : zeroOk Γ.P = true) {t : TypeId} {ps : List (Nat × AV)} {cps : Array (Nat × Value)} {K : AV → Option R} {r : R} (h : opBuild Γ.P t ps K = some r)
    (hl : cps.toList.length = ps.length) (hc : ∀ (k : Nat) (p : Nat × AV), ps[k]? = some p → ∃ v, cps.toList[k]? = some (p.1, v) ∧ RepA Γ.P w S σ ob p.2 v) :
    ∃ av, K av = some r ∧ ∃ cv, RepA Γ.P w S σ ob av cv ∧ (Instr.build t cps).run Γ.P w = .ok cv w := by
  unfold opBuild at h
  obtain ⟨hrf, h⟩ := cond_some h
  simp only [Bool.and_eq_true] at hrf
  have hf := hrf.2
  have hagg : ∃ d, und Γ.P t = some d ∧ ((∃ fs, d = .struct fs) ∨ ∃ n e, d = .array n e) := by
    have h1 := hrf.1
    unfold rowT at h1
    split at h1
    · rename_i fs hd; exact ⟨_, ds_some hd (by simp), .inl ⟨_, rfl⟩⟩
    · rename_i n e hd; exact ⟨_, ds_some hd (by simp), .inr ⟨_, _, rfl⟩⟩
    · exact absurd h1 (by simp)
  split at h
  · rename_i a hfill
    obtain ⟨z, hz, hb⟩ := zero_ok (w := w) (S := S) (σ := σ) (ob := ob) hP hZ hf
    obtain ⟨d, hd, hrow⟩ := hagg
    have fin : ∀ {place : Nat → Option (Nat × Nat)}, (∀ i ft, partT Γ.P t i = some ft → ∃ off, offP Γ.P t [i] = some (off, underId Γ.P ft) ∧ place i = some (off, Γ.P.cellsOf ft)) →
        ∃ cs : List Value, Instr.fill place z.cells cps.toList = some cs.toArray ∧ RepA Γ.P w S σ ob a (.agg cs.toArray) := by
      intro place hpl
      obtain ⟨cs, h1, hfa, v, h2, h3⟩ := fillA_ok hP hd hpl ps cps.toList _ a z.cells.toList hb hfill hl hc
      refine ⟨cs, by simpa using h1, ?_⟩
      have hv : v = .agg cs.toArray := by
        have : ∃ l, v = .agg l := by
          rcases fits_spec hfa with ⟨_, _, _, e⟩ | ⟨_, _, _, _, e⟩ | ⟨_, _, e⟩ | ⟨_, _, rfl, _⟩ | ⟨_, _, _, _, _, _, e⟩ | hi
          · rw [hd] at e; cases e; simp at hrow
          · rw [hd] at e; cases e; simp at hrow
          · rw [hd] at e; cases e; simp at hrow
          · simp only [RepA] at h3; obtain ⟨cs, _, rfl, _⟩ := h3; exact ⟨_, rfl⟩
          · rw [hd] at e; cases e; simp at hrow
          · rcases isTy_spec hi with ⟨_, _, _, e⟩ | ⟨_, _, e⟩ | ⟨_, _, e⟩ | ⟨_, _, e⟩ | ⟨_, _, _, _, e⟩ | ⟨_, _, rfl, _, _⟩
            · rw [hd] at e; cases e; simp at hrow
            · rw [hd] at e; cases e; simp at hrow
            · rw [hd] at e; cases e; simp at hrow
            · rw [hd] at e; cases e; simp at hrow
            · rw [hd] at e; cases e; simp at hrow
            · simp only [RepA] at h3; obtain ⟨cs, rfl, _⟩ := h3; exact ⟨_, rfl⟩
        obtain ⟨l, rfl⟩ := this
        congr 1
        apply Array.ext'
        simpa [Value.cells] using h2
      exact hv ▸ h3
    cases d with
    | struct fs =>
      have hpl : (fs.mapM fun f => do pure (f.offset, ← sizeOf f.type) : Sem _).run Γ.P w = .ok (fs.map fun f => (f.offset, Γ.P.cellsOf f.type)) w := by
        refine run_mapM_array _ _ w fs fun f hf => ?_
        obtain ⟨i, hi⟩ := List.mem_iff_getElem?.1 hf
        obtain ⟨dd, hdd⟩ := field_und hP hd (i := i) (f := f) (by simpa using hi)
        simp [sizeOf_run hdd]
      obtain ⟨cs, h1, h2⟩ := fin (place := ((fs.map fun f => (f.offset, Γ.P.cellsOf f.type))[·]?)) (by
        intro i ft hft
        simp only [partT, ds_of hd] at hft
        obtain ⟨f, hf, rfl⟩ := Option.map_eq_some_iff.1 hft
        obtain ⟨dd, hdd⟩ := field_und hP hd hf
        exact ⟨f.offset, by simp only [offP, hd, hf, hdd, Option.map_some, Nat.add_zero], by simp [hf]⟩)
      refine ⟨a, h, _, h2, ?_⟩
      simp only [Instr.build, Sem.run_bind, hz, Result.andThen_ok, run_underlying (und_lt hd).2, hpl, h1, Sem.run_pure]
    | array n e =>
      obtain ⟨dd, hdd⟩ := elem_array hP hd
      obtain ⟨cs, h1, h2⟩ := fin (place := fun i => some (i * Γ.P.cellsOf e, Γ.P.cellsOf e)) (by
        intro i ft hft
        simp only [partT, ds_of hd] at hft
        cases hin : Nat.blt i n with
        | false => simp [hin] at hft
        | true =>
          simp [hin] at hft
          subst hft
          have : i < n := by simpa [Nat.blt_eq] using hin
          exact ⟨i * Γ.P.cellsOf e, by simp only [offP, hd, this, if_true, hdd, Option.map_some, Nat.add_zero], rfl⟩)
      refine ⟨a, h, _, h2, ?_⟩
      simp only [Instr.build, Sem.run_bind, hz, Result.andThen_ok, run_underlying (und_lt hd).2, sizeOf_run hdd, h1, Sem.run_pure]
    | _ => simp at hrow
  · exact absurd h (by simp)

/-! ### rows -/
theorem RowV.ofFs {P : Program} (hP : tabOk P = true) : ∀ {xs : List D} {e : TypeId} {b o n : Nat} {vs : List Value}, RepFs P w S xs (List.replicate n e) vs → w.rangeAt b o vs → RowV P w S xs e b o
  | [], e, b, o, n, vs, h, hr => by simp only [RowV]
  | d :: r, e, b, o, 0, vs, h, hr => by simp [RepFs] at h
  | d :: r, e, b, o, n + 1, vs, h, hr => by
    simp only [RepFs, List.replicate_succ, List.cons.injEq] at h
    obtain ⟨t, ts', v1, v2, ⟨rfl, rfl⟩, rfl, h3, h4⟩ := h
    have hs := RepT.size hP _ _ _ h3
    simp only [RowV]
    refine ⟨v1, fun j v hv => hr j v (by rw [List.getElem?_append_left (getL hv)]; exact hv), h3, RowV.ofFs hP h4 fun j v hv => ?_⟩
    have := hr (v1.length + j) v (by rw [List.getElem?_append_right (by omega), show v1.length + j - v1.length = j by omega]; exact hv)
    rw [← hs, Nat.add_assoc]; exact this
theorem RowV.under {P : Program} (hP : tabOk P = true) {d : TypeDesc} {e : TypeId} (he : und P e = some d) : ∀ {xs : List D} {b o : Nat}, RowV P w S xs e b o → RowV P w S xs (underId P e) b o
  | [], b, o, h => by simp only [RowV]
  | x :: r, b, o, h => by
    simp only [RowV] at h ⊢
    obtain ⟨vs, h1, h2, h3⟩ := h
    exact ⟨vs, h1, h2.under hP, by rw [(underId_spec hP he).2.1]; exact RowV.under hP he h3⟩
theorem zeros_fs {P : Program} {z : D} {e : TypeId} {zs : List Value} (h : RepT P w S z e zs) : ∀ n, RepFs P w S (List.replicate n z) (List.replicate n e) (List.replicate n zs).flatten
  | 0 => by simp [RepFs]
  | n + 1 => by
    simp only [List.replicate_succ, RepFs, List.flatten_cons]
    exact ⟨e, _, zs, _, rfl, rfl, h, zeros_fs h n⟩
theorem zeros_cells {zs : Array Value} (n sz : Nat) (hz : zs.size = sz) : ((Array.range (n * sz)).map (zs[· % zs.size]!)).toList = (List.replicate n zs.toList).flatten := by
  apply List.ext_getElem?
  intro i
  subst hz
  by_cases hi : i < n * zs.size
  · have hpos : 0 < zs.size := by
      rcases Nat.eq_zero_or_pos zs.size with h | h
      · rw [h] at hi; simp at hi
      · exact h
    have h1 : i / zs.size < n := Nat.div_lt_of_lt_mul (by rw [Nat.mul_comm]; exact hi)
    have h2 : i % zs.size < zs.size := Nat.mod_lt _ hpos
    have key : ∀ (m j q : Nat), q < m → j < zs.size → (List.replicate m zs.toList).flatten[q * zs.size + j]? = zs.toList[j]? := by
      intro m
      induction m with
      | zero => intro j q hq; omega
      | succ m ih =>
        intro j q hq hj
        simp only [List.replicate_succ, List.flatten_cons]
        cases q with
        | zero => rw [List.getElem?_append_left (by simp; omega)]; simp
        | succ q =>
          rw [List.getElem?_append_right (by simp [Nat.succ_mul]; omega), show (q + 1) * zs.size + j - zs.toList.length = q * zs.size + j by simp [Nat.succ_mul]; omega]
          exact ih j q (by omega) hj
    have := key n (i % zs.size) (i / zs.size) h1 h2
    rw [show i / zs.size * zs.size + i % zs.size = i by rw [Nat.mul_comm]; exact Nat.div_add_mod i zs.size] at this
    rw [this]
    simp [hi, h2]
  · rw [List.getElem?_eq_none (by simp; omega), List.getElem?_eq_none (by simp; omega)]
/-- a new block: a row of the call's own -/
theorem newArr_ok (hP : tabOk Γ.P = true) (hM : MemOK Γ w0 S0 X w S σ ob) {e el : TypeId} {d : TypeDesc} {xs : List D} {cs : Array Value} {cap : Nat} {fr : Nat × Nat} (fz : Bool) (he : und Γ.P e = some d)
    (hw : w'.heap = w.heap.push (.cells cs el fr))
    (hcs : cs.size = cap * Γ.P.cellsOf e) (hle : xs.length ≤ cap) {vs : List Value} (hv : RepFs Γ.P w S xs (List.replicate xs.length e) vs) (hpre : ∀ (j : Nat) (v : Value), vs[j]? = some v → cs.toList[j]? = some v) (hnf : NF fr cs.size := by intro o _ h; simp at h) (hev : w'.os = w.os ∧ w'.output = w.output := by exact ⟨rfl, rfl⟩) (hel : underId Γ.P el = underId Γ.P e ∧ Γ.P.cellsOf el = Γ.P.cellsOf e := by exact ⟨rfl, rfl⟩) :
    ∃ σ', Trans Γ w0 S0 X w S σ ob w' S σ' (ob ++ [some (.arr (underId Γ.P e) xs fz)]) ∧
      RepA Γ.P w' S σ' (ob ++ [some (.arr (underId Γ.P e) xs fz)]) (.ref (underId Γ.P e) ob.length) (.slice (some ⟨w.heap.size, 0, none⟩) xs.length cap) := by
  obtain ⟨u1, u2, _, u4⟩ := underId_spec hP he
  have t1 : Trans Γ w0 S0 X w S σ ob w' S σ ob := hM.more (fun b hb => by rw [hw]; simp only [Array.getElem?_push]; rw [if_neg (by omega)]) (by rw [hw]; simp) (fun _ h => h) (fun _ h => .inl h) hev
  have k1 : Keeps w S w' S := fun y hy => ⟨cell_of_heap (by have := hM.sin y hy; rw [hw]; simp only [Array.getElem?_push]; rw [if_neg (by omega)]), hy⟩
  have hblk : w'.heap[w.heap.size]? = some (.cells cs el fr) := by rw [hw]; simp
  have hrow : RowV Γ.P w' S xs e w.heap.size 0 := RowV.ofFs hP (RepFs.keep k1 _ _ _ hv) (fun j v hj => by
    have := hpre j v hj
    simp only [World.cell?, hblk, Option.isSome_none, Bool.false_eq_true, if_false, Nat.zero_add]
    simpa using this)
  have t2 := MemOK.add t1.1 (o := .arr (underId Γ.P e) xs fz) (b := w.heap.size) (c := cap) (by rw [hw]; simp) (.inr hM.grow)
    (fun j o' ho => by have := (hM.own j o' ho).2; omega) (by
      simp only [ObjAt, more_new]
      exact ⟨cs, el, fr, hblk, hnf, by rw [u2]; exact hcs, hle, hrow.under hP he, ⟨⟨d, u1⟩, hel.1, hel.2.trans u2.symm⟩, fun y hy hyb => by have := hM.sin y hy; omega⟩)
  refine ⟨_, t1.trans t2, ?_⟩
  simp only [RepA]
  refine ⟨by simp, _, _, _, rfl, fun e' xs' fz hc => ?_⟩
  rcases get_more hc with ⟨hl, _⟩ | ⟨_, he'⟩
  · omega
  · cases he'
    rw [more_new]
    exact ⟨rfl, rfl, rfl, rfl⟩
/-- a new block of data -/
theorem newData_ok (hP : tabOk Γ.P = true) (hM : MemOK Γ w0 S0 X w S σ ob) {e el : TypeId} {d : TypeDesc} {xs : List D} {cs : Array Value} {cap : Nat} {c : Cp} {fr : Nat × Nat} (he : und Γ.P e = some d)
    (hw : w'.heap = w.heap.push (.cells cs el fr))
    (hc : CapOK c (some ⟨w.heap.size, 0, none⟩) xs.length cap) {vs : List Value} (hv : RepFs Γ.P w S xs (List.replicate xs.length e) vs) (hpre : ∀ (j : Nat) (v : Value), vs[j]? = some v → cs.toList[j]? = some v) (hev : w'.os = w.os ∧ w'.output = w.output := by exact ⟨rfl, rfl⟩) :
    ∃ S', Trans Γ w0 S0 X w S σ ob w' S' σ ob ∧ RepA Γ.P w' S' σ ob (.sl (underId Γ.P e) c xs) (.slice (some ⟨w.heap.size, 0, none⟩) xs.length cap) := by
  obtain ⟨u1, u2, _, u4⟩ := underId_spec hP he
  let S' : Addr → Prop := fun y => S y ∨ y.block = w.heap.size
  have hb : ∀ b, b < w.heap.size → w'.heap[b]? = w.heap[b]? := fun b hb => by rw [hw]; simp only [Array.getElem?_push]; rw [if_neg (by omega)]
  have t1 : Trans Γ w0 S0 X w S σ ob w' S' σ ob := hM.more hb (by rw [hw]; simp) (fun _ h => .inl h) (fun y h => h.imp id fun h => by rw [h, hw]; simp) hev
  have k1 : Keeps w S w' S' := fun y hy => ⟨cell_of_heap (hb _ (hM.sin y hy)), .inl hy⟩
  have hblk : w'.heap[w.heap.size]? = some (.cells cs el fr) := by rw [hw]; simp
  have hrow : RowV Γ.P w' S' xs e w.heap.size 0 := RowV.ofFs hP (RepFs.keep k1 _ _ _ hv) (fun j v hj => by
    have := hpre j v hj
    simp only [World.cell?, hblk, Option.isSome_none, Bool.false_eq_true, if_false, Nat.zero_add]
    simpa using this)
  refine ⟨S', t1, ?_⟩
  simp only [RepA]
  exact ⟨_, _, rfl, hc, .inr ⟨_, _, rfl, RowV.toRep hP (fun n _ _ => .inr rfl) (hrow.under hP he)⟩⟩
end
end Go.Proofs.Ytapaenfafjmljaa.V

/- Operations. Part seven: rows made anew, lengths, least and greatest. -/
namespace Go.Proofs.Ytapaenfafjmljaa.V
open Go
set_option linter.unusedVariables false
set_option linter.unusedSimpArgs false

section
variable {Γ : Ctx} {w0 : World} {S0 : Addr → Prop} {X : XB} {w w' : World} {S S' : Addr → Prop} {σ σ' : Loc} {ob ob' : Objs} {R : Type}

/-- an operation comes to a value, and the rest goes on with it -/
def Out (Γ : Ctx) (w0 : World) (S0 : Addr → Prop) (X : XB) (w : World) (S : Addr → Prop) (σ : Loc) (ob : Objs) (K : AV → Objs → Option R) (r : R) (s : Sem Value) : Prop :=
  ∃ av ob', K av ob' = some r ∧ ∃ cv w' S' σ', s.run Γ.P w = .ok cv w' ∧ Trans Γ w0 S0 X w S σ ob w' S' σ' ob' ∧ RepA Γ.P w' S' σ' ob' av cv
theorem out_same (hM : MemOK Γ w0 S0 X w S σ ob) {K : AV → Objs → Option R} {r : R} {s : Sem Value} {av : AV} {cv : Value} (h : K av ob = some r) (hr : s.run Γ.P w = .ok cv w) (hv : RepA Γ.P w S σ ob av cv) :
    Out Γ w0 S0 X w S σ ob K r s := ⟨av, ob, h, cv, w, S, σ, hr, Trans.refl hM, hv⟩

theorem isTy_fits {P : Program} {t : TypeId} {a : AV} (h : isTy P t a = true) : fits P t a = true := by
  rcases isTy_spec h with ⟨k, n, rfl, hu⟩ | ⟨x, rfl, hu⟩ | ⟨l, rfl, hu⟩ | ⟨e, rfl, hu⟩ | ⟨e, c, xs, rfl, hu⟩ | ⟨x, d, rfl, hu, hk⟩ <;> simpa only [fits] using h
theorem fillL_ok (hP : tabOk Γ.P = true) {e : TypeId} {d : TypeDesc} (he : und Γ.P e = some d) : ∀ (ps : List (Nat × AV)) (cps : List (Nat × Value)) (xs : List D) (vs : List Value) (S : Addr → Prop) (ob : Objs) (xs' : List D) (ob' : Objs),
    MemOK Γ w0 S0 X w S σ ob → RepFs Γ.P w S xs (List.replicate xs.length e) vs → fillL Γ.P e xs ps ob = some (xs', ob') → cps.length = ps.length →
    (∀ (k : Nat) (p : Nat × AV), ps[k]? = some p → ∃ v, cps[k]? = some (p.1, v) ∧ RepA Γ.P w S σ ob p.2 v) →
    ∃ S' vs', Instr.fill (fun i => some (i * Γ.P.cellsOf e, Γ.P.cellsOf e)) vs.toArray cps = some vs'.toArray ∧ Trans Γ w0 S0 X w S σ ob w S' σ ob' ∧
      RepFs Γ.P w S' xs' (List.replicate xs'.length e) vs' ∧ xs'.length = xs.length
  | [], cps, xs, vs, S, ob, xs', ob', hM, hr, h, hl, hc => by
    cases cps with
    | cons _ _ => simp at hl
    | nil => simp only [fillL, Option.some.injEq, Prod.mk.injEq] at h; obtain ⟨rfl, rfl⟩ := h; exact ⟨S, vs, by simp [Instr.fill], Trans.refl hM, hr, rfl⟩
  | (i, x) :: r, cps, xs, vs, S, ob, xs', ob', hM, hr, h, hl, hc => by
    cases cps with
    | nil => simp at hl
    | cons cp cr =>
      obtain ⟨v, hv, hx⟩ := hc 0 (i, x) rfl
      simp at hv
      subst hv
      simp only [fillL] at h
      cases hf : frz x ob with
      | mk v' ob1 =>
        simp only [hf] at h
        obtain ⟨S1, t1, hv'⟩ := frz_ok hP hM hf hx
        cases hd : toD v' with
        | none => simp [hd] at h
        | some y =>
          simp only [hd] at h
          obtain ⟨hc1, h⟩ := cond_some h
          simp only [Bool.and_eq_true] at hc1
          have hi : i < xs.length := by simpa [Nat.blt_eq] using hc1.2
          have hfit := isTy_fits hc1.1
          have hy : RepT Γ.P w S1 y e v.cells.toList := toD_rep hP ⟨hfit, v, rfl, hv'⟩ hd
          have hsz := (fits_size hP v' e v hfit hv').1
          have hr1 : RepFs Γ.P w S1 xs (List.replicate xs.length e) vs := RepFs.keep t1.3 _ _ _ hr
          obtain ⟨x0, hx0⟩ : ∃ x0, xs[i]? = some x0 := ⟨_, List.getElem?_eq_getElem hi⟩
          obtain ⟨A, V, B, rfl, hA, hV, hnew⟩ := RepFs.get hP i hr1 hx0 (t := e) (by rw [List.getElem?_replicate, if_pos hi])
          rw [sumCells_take_replicate _ _ _ (by omega)] at hA
          have hVl := RepT.size hP _ _ _ hV
          have hlen : i * Γ.P.cellsOf e + Γ.P.cellsOf e ≤ (A ++ V ++ B).toArray.size := by simp; omega
          rw [fill_step rfl hsz hlen]
          have hp : putCs (A ++ V ++ B).toArray.toList (i * Γ.P.cellsOf e) v.cells.toList = A ++ v.cells.toList ++ B := by
            simpa using putCs_mid hA (by rw [hVl, Array.length_toList, hsz])
          rw [hp]
          have h2 := hnew y _ hy
          obtain ⟨S2, vs2, g1, g2, g3, g4⟩ := fillL_ok hP he r cr (xs.set i y) _ S1 ob1 xs' ob' t1.1 (by simpa using h2) h (by simpa using hl)
            (fun k p hk => by obtain ⟨u, hu, hu2⟩ := hc (k + 1) p (by simpa using hk); exact ⟨u, by simpa using hu, t1.2 _ _ hu2⟩)
          exact ⟨S2, vs2, by rw [List.append_assoc]; exact g1, t1.trans g2, g3, by simpa using g4⟩
theorem zero_row (hP : tabOk Γ.P = true) {e : TypeId} {z : D} {zv : Array Value} {n : Nat} (h : RepT Γ.P w S z e zv.toList) :
    ∃ vs, ((Array.range (n * Γ.P.cellsOf e)).map ((if n * Γ.P.cellsOf e = 0 then #[] else zv)[· % (if n * Γ.P.cellsOf e = 0 then #[] else zv).size]!)) = vs.toArray ∧
      RepFs Γ.P w S (List.replicate n z) (List.replicate n e) vs := by
  have hs := RepT.size hP _ _ _ h
  refine ⟨_, ?_, zeros_fs h n⟩
  apply Array.ext'
  by_cases h0 : n * Γ.P.cellsOf e = 0
  · rw [h0]
    have : (List.replicate n zv.toList).flatten = [] := by
      apply List.eq_nil_of_length_eq_zero
      simp [hs, h0]
    rw [this]; simp
  · rw [if_neg h0]
    exact zeros_cells n _ (by simpa using hs)
theorem zrun {e : TypeId} {z : Value} {n : Nat} (h : (zeroValue e).run Γ.P w = .ok z w) :
    (if n = 0 then pure #[] else do pure (← zeroValue e).cells : Sem (Array Value)).run Γ.P w = .ok (if n = 0 then #[] else z.cells) w := by
  split
  · rfl
  · simp only [Sem.run_bind, h, Result.andThen_ok, Sem.run_pure]
theorem buildSlice_ok (hP : tabOk Γ.P = true) (hZ : zeroOk Γ.P = true) (hM : MemOK Γ w0 S0 X w S σ ob) {own : Bool} {t : TypeId} {n : Nat} {ps : List (Nat × AV)} {cps : Array (Nat × Value)} {K : AV → Objs → Option R} {r : R}
    (h : opBuildSlice Γ.P own t n ps ob K = some r)
    (hl : cps.toList.length = ps.length) (hc : ∀ (k : Nat) (p : Nat × AV), ps[k]? = some p → ∃ v, cps.toList[k]? = some (p.1, v) ∧ RepA Γ.P w S σ ob p.2 v) :
    Out Γ w0 S0 X w S σ ob K r (Instr.buildSlice t n cps) := by
  unfold opBuildSlice at h
  split at h
  · rename_i e hd
    have hs := ds_some hd (by simp)
    obtain ⟨d, he⟩ := elem_slice hP hs
    split at h
    · rename_i z hz
      obtain ⟨hc1, h⟩ := cond_some h
      simp only [Bool.and_eq_true] at hc1
      have hsmall : n * Γ.P.cellsOf e ≤ 16777216 := by have := hc1.2; exact Nat.ble_eq.mp this
      obtain ⟨zv, hzr, hzb⟩ := zero_ok (w := w) (S := S) (σ := σ) (ob := ob) hP hZ hc1.1
      have hzt := toD_rep hP hzb hz
      obtain ⟨vs, hvs, hfs⟩ := zero_row hP (n := n) hzt
      split at h
      · rename_i xs ob1 hfill
        obtain ⟨S1, vs1, g1, t1, g3, g4⟩ := fillL_ok hP he ps cps.toList _ vs S ob xs ob1 hM (by simpa using hfs) hfill hl hc
        have hrun : ∀ w', w' = { w with heap := w.heap.push (.cells vs1.toArray e) } → (Instr.buildSlice t n cps).run Γ.P w = .ok (.slice (some ⟨w.heap.size, 0, none⟩) n n) w' := by
          rintro w' rfl
          have hn : ¬ (n * Γ.P.cellsOf e > 2 ^ 24) := by omega
          by_cases h0 : n * Γ.P.cellsOf e = 0
          · simp only [if_pos h0] at hvs
            simp only [Instr.buildSlice, Sem.run_bind, run_underlying (und_lt hs).2, Result.andThen_ok, sizeOf_run he, hn, if_false]
            rw [if_pos h0]
            simp only [Sem.run_bind, Result.andThen_ok, Sem.run_pure]
            rw [hvs]
            simp only [g1, newRow, newObj, Sem.run_bind, Sem.run_pure, Result.andThen_ok, Sem.run]
          · simp only [if_neg h0] at hvs
            simp only [Instr.buildSlice, Sem.run_bind, run_underlying (und_lt hs).2, Result.andThen_ok, sizeOf_run he, hn, if_false]
            rw [if_neg h0]
            simp only [Sem.run_bind, hzr, Result.andThen_ok, Sem.run_pure]
            rw [hvs]
            simp only [g1, newRow, newObj, Sem.run_bind, Sem.run_pure, Result.andThen_ok, Sem.run]
        have hlen : n = xs.length := by simpa using g4.symm
        have hsz := RepFs.size hP _ _ _ g3
        rw [sumCells_replicate] at hsz
        rcases cond_cases h with ⟨_, h⟩ | ⟨_, h⟩
        · obtain ⟨σ', t2, hr⟩ := newArr_ok (w' := { w with heap := w.heap.push (.cells vs1.toArray e) }) hP t1.1 (e := e) (xs := xs) (cs := vs1.toArray) (el := e) (cap := n) false he rfl (by simp [hsz, hlen]) (by omega) g3 (fun j v hj => by simpa using hj)
          rw [← hlen] at hr
          exact ⟨_, _, h, _, _, S1, σ', hrun _ rfl, t1.trans t2, hr⟩
        · obtain ⟨S2, t2, hr⟩ := newData_ok (w' := { w with heap := w.heap.push (.cells vs1.toArray e) }) hP t1.1 (e := e) (xs := xs) (cs := vs1.toArray) (el := e) (cap := n) (c := .ex) he rfl (by simp [CapOK, hlen]) g3 (fun j v hj => by simpa using hj)
          rw [← hlen] at hr
          exact ⟨_, _, h, _, _, S2, σ, hrun _ rfl, t1.trans t2, hr⟩
      · exact absurd h (by simp)
    · exact absurd h (by simp)
  · exact absurd h (by simp)
theorem typeInfo_run {t : TypeId} {d : TypeDesc} (h : und Γ.P t = some d) : ∃ i, (typeInfo t).run Γ.P w = .ok i w ∧ i.bytes = Γ.P.bytesOf t := by
  obtain ⟨i, hi⟩ := info_of_und h
  exact ⟨i, by simp [typeInfo, hi], by simp [Program.bytesOf, hi]⟩
theorem wrap_id {n : Int} (h0 : 0 ≤ n) (h1 : n ≤ 4611686018427387904) : IntKind.i64.wrap n = n := by
  rw [IntKind.wrap_i64]; omega
theorem roomB_spec {n b : Nat} (h : roomB n b = true) : 0 < b ∧ n * b ≤ 70368744177664 ∧ n ≤ 70368744177664 := by
  unfold roomB at h
  simp only [Bool.and_eq_true, decide_eq_true_eq] at h
  have hb : 0 < b := by simpa [Nat.blt_eq] using h.1
  refine ⟨hb, h.2, Nat.le_trans (Nat.le_mul_of_pos_right n hb) h.2⟩
theorem makeSlice_ok (hP : tabOk Γ.P = true) (hZ : zeroOk Γ.P = true) (hM : MemOK Γ w0 S0 X w S σ ob) {t : TypeId} {l c : AV} {vl vc : Value} {K : AV → Objs → Option R} {r : R}
    (hl : RepA Γ.P w S σ ob l vl) (hcv : RepA Γ.P w S σ ob c vc) (h : opMakeSlice Γ.P t l c ob K = some r) : Out Γ w0 S0 X w S σ ob K r (Instr.makeSlice t vl vc) := by
  unfold opMakeSlice at h
  split at h
  · rename_i e hd
    have hs := ds_some hd (by simp)
    obtain ⟨d, he⟩ := elem_slice hP hs
    split at h
    · rename_i k n k' m z hz
      simp only [RepA] at hl hcv
      subst hl; subst hcv
      obtain ⟨hc1, h⟩ := cond_some h
      simp only [Bool.and_eq_true, decide_eq_true_eq] at hc1
      obtain ⟨⟨⟨hfit, h0⟩, hnm⟩, hroom⟩ := hc1
      obtain ⟨hb, hb1, hb2⟩ := roomB_spec hroom
      obtain ⟨zv, hzr, hzb⟩ := zero_ok (w := w) (S := S) (σ := σ) (ob := ob) hP hZ hfit
      have hzt := toD_rep hP hzb hz
      obtain ⟨vs, hvs, hfs⟩ := zero_row hP (n := m.toNat) hzt
      obtain ⟨i, hi, hib⟩ := typeInfo_run (w := w) he
      have hsz := RepFs.size hP _ _ _ hfs
      rw [sumCells_replicate] at hsz
      have w1 : IntKind.i64.wrap n = n := wrap_id h0 (by omega)
      have w2 : IntKind.i64.wrap m = m := wrap_id (by omega) (by omega)
      have hbig : (Γ.P.bytesOf e : Int) * m ≤ 70368744177664 := by
        have : ((m.toNat * Γ.P.bytesOf e : Nat) : Int) ≤ 70368744177664 := Int.ofNat_le.2 hb1
        rw [Int.natCast_mul, Int.toNat_of_nonneg (by omega), Int.mul_comm] at this
        exact this
      have hA : ((decide (m < 0) || decide ((Γ.P.bytesOf e : Int) * m > 2 ^ 48)) || decide (n < 0) || decide (n > m)) = false := by
        simp only [Bool.or_eq_false_iff, decide_eq_false_iff_not]
        refine ⟨⟨⟨by omega, ?_⟩, by omega⟩, by omega⟩
        have h48 : (2 : Int) ^ 48 = 281474976710656 := by decide
        rw [h48]; omega
      have hrun : (Instr.makeSlice t (.int k n) (.int k' m)).run Γ.P w = .ok (.slice (some ⟨w.heap.size, 0, none⟩) n.toNat m.toNat) { w with heap := w.heap.push (.cells vs.toArray e) } := by
        by_cases h0 : m.toNat * Γ.P.cellsOf e = 0
        · simp only [if_pos h0] at hvs
          simp only [Instr.makeSlice, asInt, asIntOf, Sem.run_bind, run_underlying (und_lt hs).2, Result.andThen_ok, sizeOf_run he, Sem.run_pure, hi, hib, w1, w2, hA, Bool.false_eq_true, if_false, run_askRoom]
          rw [if_pos h0]
          simp only [Sem.run_bind, Result.andThen_ok, Sem.run_pure]
          rw [hvs]
          simp only [newRow, newObj, Sem.run_bind, Sem.run_pure, Result.andThen_ok, Sem.run]
        · simp only [if_neg h0] at hvs
          simp only [Instr.makeSlice, asInt, asIntOf, Sem.run_bind, run_underlying (und_lt hs).2, Result.andThen_ok, sizeOf_run he, Sem.run_pure, hi, hib, w1, w2, hA, Bool.false_eq_true, if_false, run_askRoom]
          rw [if_neg h0]
          simp only [Sem.run_bind, hzr, Result.andThen_ok, Sem.run_pure]
          rw [hvs]
          simp only [newRow, newObj, Sem.run_bind, Sem.run_pure, Result.andThen_ok, Sem.run]
      have hfs' : RepFs Γ.P w S (List.replicate n.toNat z) (List.replicate (List.replicate n.toNat z).length e) (List.replicate n.toNat zv.cells.toList).flatten := by
        simpa using zeros_fs hzt n.toNat
      obtain ⟨σ', t2, hr⟩ := newArr_ok (w' := { w with heap := w.heap.push (.cells vs.toArray e) }) hP hM (e := e) (xs := List.replicate n.toNat z) (cs := vs.toArray) (el := e) (cap := m.toNat) false he rfl (by simp [hsz]) (by simp; omega) hfs' (fun j v hj => by
        have hvl : vs = (List.replicate m.toNat zv.cells.toList).flatten := by
          have := RepFs.size hP _ _ _ (zeros_fs hzt m.toNat)
          have h2 := congrArg Array.toList hvs
          refine h2.symm.trans ?_
          by_cases hz0 : m.toNat * Γ.P.cellsOf e = 0
          · rw [sumCells_replicate, hz0] at this
            rw [List.eq_nil_of_length_eq_zero this, hz0]; simp
          · rw [if_neg hz0]; exact zeros_cells _ _ (by have := RepT.size hP _ _ _ hzt; simpa using this)
        rw [hvl, show m.toNat = n.toNat + (m.toNat - n.toNat) by omega, ← List.replicate_append_replicate, List.flatten_append]
        rw [List.toList_toArray, List.getElem?_append_left (getL hj)]; exact hj)
      rw [List.length_replicate] at hr
      exact ⟨_, _, h, _, _, S, σ', hrun, t2, hr⟩
    · exact absurd h (by simp)
  · exact absurd h (by simp)
end
end Go.Proofs.Ytapaenfafjmljaa.V

/- Operations. Part eight: append. -/
namespace Go.Proofs.Ytapaenfafjmljaa.V
open Go
set_option linter.unusedVariables false
set_option linter.unusedSimpArgs false

section
variable {Γ : Ctx} {w0 : World} {S0 : Addr → Prop} {X : XB} {w w' : World} {S S' : Addr → Prop} {σ σ' : Loc} {ob ob' : Objs} {R : Type}

/-- a row's cells, in one list -/
theorem RowV.flat {P : Program} (hP : tabOk P = true) : ∀ {xs : List D} {e : TypeId} {b o : Nat}, RowV P w S xs e b o → ∃ vs, RepFs P w S xs (List.replicate xs.length e) vs ∧ w.rangeAt b o vs
  | [], e, b, o, h => ⟨[], by simp [RepFs], fun j v hv => by simp at hv⟩
  | d :: r, e, b, o, h => by
    simp only [RowV] at h
    obtain ⟨v1, h1, h2, h3⟩ := h
    obtain ⟨v2, h4, h5⟩ := RowV.flat hP h3
    have hs := RepT.size hP _ _ _ h2
    refine ⟨v1 ++ v2, ?_, fun j v hv => ?_⟩
    · simp only [List.length_cons, List.replicate_succ, RepFs]
      exact ⟨e, _, v1, v2, rfl, rfl, h2, h4⟩
    · rcases Nat.lt_or_ge j v1.length with hj | hj
      · rw [List.getElem?_append_left hj] at hv; exact h1 j v hv
      · rw [List.getElem?_append_right hj] at hv
        have := h5 _ v hv
        rw [show o + P.cellsOf e + (j - v1.length) = o + j by omega] at this
        exact this
theorem RepFs.back {P : Program} (hP : tabOk P = true) {e : TypeId} {d : TypeDesc} (he : und P e = some d) : ∀ {xs : List D} {n : Nat} {vs : List Value}, RepFs P w S xs (List.replicate n (underId P e)) vs → RepFs P w S xs (List.replicate n e) vs
  | [], 0, vs, h => by simpa [RepFs] using h
  | [], n + 1, vs, h => by simp [RepFs] at h
  | x :: r, 0, vs, h => by simp [RepFs] at h
  | x :: r, n + 1, vs, h => by
    simp only [List.replicate_succ, RepFs] at h ⊢
    obtain ⟨t, ts', v1, v2, h1, rfl, h3, h4⟩ := h
    cases h1
    exact ⟨e, _, v1, v2, rfl, rfl, h3.back hP ⟨_, he⟩, RepFs.back hP he h4⟩
theorem RepFs.app {P : Program} : ∀ {xs ys : List D} {ts us : List TypeId} {vs ws : List Value}, RepFs P w S xs ts vs → RepFs P w S ys us ws → RepFs P w S (xs ++ ys) (ts ++ us) (vs ++ ws)
  | [], ys, ts, us, vs, ws, h, h' => by
    simp only [RepFs] at h
    obtain ⟨rfl, rfl⟩ := h
    simpa using h'
  | x :: r, ys, ts, us, vs, ws, h, h' => by
    simp only [RepFs, List.cons_append] at h ⊢
    obtain ⟨t, ts', v1, v2, rfl, rfl, h3, h4⟩ := h
    exact ⟨t, ts' ++ us, v1, v2 ++ ws, rfl, by simp, h3, RepFs.app h4 h'⟩
theorem bytesD_fs {P : Program} {e : TypeId} (he : und P e = some (.int .u8)) : ∀ (l : List UInt8), RepFs P w S (bytesD l) (List.replicate (bytesD l).length e) (l.map fun b => Value.int .u8 b.toNat)
  | [] => by simp [bytesD, RepFs]
  | c :: r => by
    have ih := bytesD_fs he r
    simp only [bytesD, List.map_cons, List.length_cons, List.replicate_succ, RepFs] at ih ⊢
    exact ⟨e, _, [_], _, rfl, rfl, by simp [RepT, he], ih⟩

theorem src_ok (hP : tabOk Γ.P = true) (hM : MemOK Γ w0 S0 X w S σ ob) {tx e0 : TypeId} {d : TypeDesc} {x : AV} {vx : Value} {ys : List D} (he : und Γ.P e0 = some d)
    (hk : (∃ e', Γ.P.underlying tx = some (.slice e')) ∨ Γ.P.underlying tx = some .string)
    (h : elems Γ.P (underId Γ.P e0) ob x = some ys) (hx : RepA Γ.P w S σ ob x vx) :
    ∃ news, Src Γ.P (Γ.P.cellsOf e0) tx vx ys.length news w ∧ RepFs Γ.P w S ys (List.replicate ys.length e0) news := by
  obtain ⟨u1, u2, _, u4⟩ := underId_spec hP he
  have mk : ∀ {a : Addr} {n c : Nat} {news : List Value}, news.length = n * Γ.P.cellsOf e0 → (∀ (j : Nat) (u : Value), news[j]? = some u → w.cell? (a.add j) = some u) → (∀ u ∈ news, u.oneCell' = true) →
      Src Γ.P (Γ.P.cellsOf e0) tx (.slice (some a) n c) n news w := fun {a n c news} h1 h2 h3 =>
    ⟨hk, fun _ => rfl, run_firstCells_some w _ n a n c news h1 h2, run_firstCells_some w.drew _ n a n c news h1 (by simpa using h2), h1, h3⟩
  have mk0 : ∀ {a : Option Addr} {c : Nat}, Src Γ.P (Γ.P.cellsOf e0) tx (.slice a 0 c) 0 [] w := fun {a c} => by
    cases a with
    | none => exact ⟨hk, fun _ => rfl, run_firstCells_none w _ 0 0 c, run_firstCells_none w.drew _ 0 0 c, by simp, fun _ h => by cases h⟩
    | some a => exact mk (by simp) (fun j u hu => by simp at hu) (fun _ h => by cases h)
  cases x <;> simp only [elems] at h
  case snil =>
    cases h
    simp only [RepA] at hx; subst hx
    exact ⟨[], mk0, by simp [RepFs]⟩
  case sl e' c xs =>
    obtain ⟨hb, h2⟩ := cond_some h
    obtain rfl := beq_id hb
    clear h
    cases h2
    simp only [RepA] at hx
    obtain ⟨a, cap, rfl, hc, hr⟩ := hx
    rcases hr with rfl | ⟨b, o, rfl, hr⟩
    · exact ⟨[], mk0, by simp [RepFs]⟩
    · obtain ⟨vs, h1, h2⟩ := RowV.flat hP hr.toV
      have h1 := RepFs.back hP he h1
      have hs := RepFs.size hP _ _ _ h1
      rw [sumCells_replicate] at hs
      exact ⟨vs, mk hs (fun j u hu => by rw [Addr.add_lit]; exact h2 j u hu) (RepFs.one _ _ _ h1), h1⟩
  case ref e' j =>
    obtain ⟨hb, h2⟩ := cond_some h
    obtain rfl := beq_id hb
    clear h
    split at h2
    · rename_i e1 xs fz hob
      cases h2
      simp only [RepA] at hx
      obtain ⟨_, b, n, cap, rfl, ha⟩ := hx
      obtain ⟨rfl, rfl, rfl, rfl⟩ := ha _ _ _ hob
      have hO := hM.objs j _ hob
      simp only [ObjAt] at hO
      obtain ⟨cs, el, fr, hb, hnf, hcs, hle, hrow, hel, hS⟩ := hO
      obtain ⟨vs, h1, h2⟩ := RowV.flat hP hrow
      have h1 := RepFs.back hP he h1
      have hs := RepFs.size hP _ _ _ h1
      rw [sumCells_replicate] at hs
      exact ⟨vs, mk hs (fun j u hu => by rw [Addr.add_lit]; exact h2 j u hu) (RepFs.one _ _ _ h1), h1⟩
    · exact absurd h2 (by simp)
  case s l =>
    split at h
    · rename_i hd
      cases h
      have hu := ds_some hd (by simp)
      have hu : und Γ.P e0 = some (.int .u8) := by rw [he]; rw [u1] at hu; exact hu
      simp only [RepA] at hx
      obtain ⟨s, rfl, rfl⟩ := hx
      have hc := cells_int hP hu
      refine ⟨byteCells s, ?_, bytesD_fs hu _⟩
      have hlen : (bytesD s.data.toList).length = s.size := by rw [size_len]; simp [bytesD]
      rw [hlen, hc]
      exact ⟨hk, fun _ => rfl, firstCells_string s w, firstCells_string s w.drew, by rw [byteCells_length, Nat.mul_one], fun u hu => by
        obtain ⟨_, _, rfl⟩ := List.mem_map.1 hu
        rfl⟩
    · exact absurd h (by simp)
  all_goals exact absurd h (by simp)

/-- (e) cells turn in a block that no object has -/
theorem MemOK.touch (h : MemOK Γ w0 S0 X w S σ ob) {b : Nat} (hX : X b ∨ w0.heap.size ≤ b) (hd : ∀ j o, ob[j]? = some (some o) → (σ j).1 ≠ b)
    (hb : ∀ b', b' ≠ b → w'.heap[b']? = w.heap[b']?) (hg : w'.heap.size = w.heap.size) (hk : Keeps w S w' S) (hwh : ∀ n, Whole w b n → Whole w' b n) (he : w'.os = w.os ∧ w'.output = w.output := by exact ⟨rfl, rfl⟩) : Trans Γ w0 S0 X w S σ ob w' S σ ob := by
  refine ⟨?_, fun a v r => RepA.keep hk (Stays.refl σ ob) a v r, hk⟩
  refine { objs := ?_, apart := h.apart, own := ?_, old := ?_, grow := by rw [hg]; exact h.grow, s0 := h.s0, snew := h.snew, sin := ?_, glob := ?_, env := ⟨he.1.trans h.env.1, he.2.trans h.env.2⟩, kept := h.kept.trans hk, root := h.root }
  · intro i x hx
    exact (h.objs i x hx).keep hk (Stays.refl σ ob) rfl (hb _ (hd i x hx)) fun y hy _ => hy
  · intro i x hx; rw [hg]; exact h.own i x hx
  · intro b' hb0 hX'
    rw [hb b' ?_, h.old b' hb0 hX']
    rintro rfl
    rcases hX with hx | hx
    · exact hX' hx
    · omega
  · intro a ha; rw [hg]; exact h.sin a ha
  · refine ⟨fun g t x hx => ?_, fun g hg => (h.glob.ifs g hg).keep hk⟩
    obtain ⟨vs, h1, h2⟩ := h.glob.data g t x hx
    refine ⟨vs, h1.keep hk, RepT.keep hk _ _ _ h2.1, fun fs hf => ?_⟩
    have h2 := h2.2 fs hf
    by_cases hgb : g = b
    · subst hgb; exact hwh _ h2
    · exact h2.same (hb g hgb)
/-- what is known of an append's list and of its type -/
theorem grow_ok (hP : tabOk Γ.P = true) (hZ : zeroOk Γ.P = true) (hM : MemOK Γ w0 S0 X w S σ ob) {t tx ty e0 : TypeId} {d : TypeDesc} (hs : und Γ.P t = some (.slice e0)) (he : und Γ.P e0 = some d)
    (hfit : fits Γ.P e0 (zeroA Γ.P depth e0) = true) (fz : Bool) {base : Option Addr} {cap : Nat} {xs ys : List D} {olds news : List Value}
    (hold : (Builtin.firstCells (Γ.P.cellsOf e0) xs.length (.slice base xs.length cap)).run Γ.P w.drew = .ok olds.toArray w.drew) (hxs : RepFs Γ.P w S xs (List.replicate xs.length e0) olds)
    {vx : Value} (hsrc : Src Γ.P (Γ.P.cellsOf e0) tx vx ys.length news w) (hys : RepFs Γ.P w S ys (List.replicate ys.length e0) news)
    (hg : cap < xs.length + ys.length) (hroom : roomB (xs.length + ys.length) (Γ.P.bytesOf e0) = true) :
    ∃ w' σ' cv, (Builtin.append_ #[t, tx] ty #[.slice base xs.length cap, vx]).run Γ.P w = .ok cv w' ∧ Trans Γ w0 S0 X w S σ ob w' S σ' (ob ++ [some (.arr (underId Γ.P e0) (xs ++ ys) fz)]) ∧
      RepA Γ.P w' S σ' (ob ++ [some (.arr (underId Γ.P e0) (xs ++ ys) fz)]) (.ref (underId Γ.P e0) ob.length) cv := by
  obtain ⟨hb, hb1, hb2⟩ := roomB_spec hroom
  obtain ⟨i, hi⟩ := info_of_und he
  have hsz : i.size = Γ.P.cellsOf e0 := by have := size_of_und he; rw [hi] at this; simpa using this
  have hby : i.bytes = Γ.P.bytesOf e0 := by simp [Program.bytesOf, hi]
  obtain ⟨z, hz, hzb⟩ := zero_ok (w := w) (S := S) (σ := σ) (ob := ob) hP hZ hfit
  have hz' : i.zero = some z := by
    unfold zeroValue typeInfo at hz
    simp only [Sem.run_bind, run_program, Result.andThen_ok, hi, Sem.run_pure] at hz
    cases hq : i.zero with
    | none => simp [hq] at hz
    | some v => simp only [hq, Sem.run_pure, Result.ok.injEq, and_true] at hz; rw [hz]
  have hzs := (BV.size hP hzb).1
  have hlo := RepFs.size hP _ _ _ hxs
  have hln := RepFs.size hP _ _ _ hys
  rw [sumCells_replicate] at hlo hln
  have hge := grownCap_ge w (xs.length + ys.length) cap e0
  have hr := run_append_grow_src (P := Γ.P) w t tx ty e0 i z (und_lt hs).2 hi hz' base xs.length cap olds (by rw [hsz]; exact hold) vx ys.length news (by rw [hsz]; exact hsrc) hg (by omega)
    (growslice_fits hg (by rw [hby]; omega))
  have happ : RepFs Γ.P w S (xs ++ ys) (List.replicate (xs ++ ys).length e0) (olds ++ news) := by
    rw [List.length_append, ← List.replicate_append_replicate]
    exact RepFs.app hxs hys
  obtain ⟨σ', t2, hrep⟩ := newArr_ok (w' := w.drew.alloc (.cells ((olds ++ news).toArray ++ Builtin.zeroCells z.cells (grownCap w (xs.length + ys.length) cap e0 - (xs.length + ys.length))) e0))
    (cap := grownCap w (xs.length + ys.length) cap e0) hP hM fz he rfl (by
      have h1 : z.cells.size = Γ.P.cellsOf e0 := by simpa using hzs
      simp only [Array.size_append, List.size_toArray, size_zeroCells, List.length_append, hlo, hln, h1, ← Nat.add_mul]
      congr 1; omega) (by rw [List.length_append]; exact hge) happ (fun j v hj => by
        rw [Array.toList_append, List.getElem?_append_left (by simpa using getL hj)]; exact hj)
  rw [List.length_append] at hrep
  exact ⟨_, σ', _, hr, t2, hrep⟩
theorem onNil_some {α : Type} {l : List α} {A B : Option R} {r : R} (h : onNil l A B = some r) : (l = [] ∧ A = some r) ∨ (l ≠ [] ∧ B = some r) := by
  cases l with
  | nil => exact .inl ⟨rfl, h⟩
  | cons a q => exact .inr ⟨by simp, h⟩
/-- nothing is appended -/
theorem nothing_ok {t tx ty e0 : TypeId} {d : TypeDesc} (hs : und Γ.P t = some (.slice e0)) (he : und Γ.P e0 = some d) {base : Option Addr} {n cap : Nat} (hcap : n ≤ cap) {vx : Value} {news : List Value}
    (hsrc : Src Γ.P (Γ.P.cellsOf e0) tx vx 0 news w) : (Builtin.append_ #[t, tx] ty #[.slice base n cap, vx]).run Γ.P w = .ok (.slice base n cap) w := by
  obtain ⟨i, hi⟩ := info_of_und he
  have hsz : i.size = Γ.P.cellsOf e0 := by have := size_of_und he; rw [hi] at this; simpa using this
  have hn : news = [] := List.eq_nil_of_length_eq_zero (by rw [hsrc.newsLen]; simp)
  subst hn
  have hc := hsrc.cells
  rw [← hsz] at hc
  rcases hsrc.kind with ⟨e', hk⟩ | hk <;> cases base <;>
    simp [Builtin.append_, run_underlying (und_lt hs).2, run_underlying hk, sizeOf, typeInfo, hi, hsrc.len, hcap, hc, storeCells]
theorem append_ok (hP : tabOk Γ.P = true) (hZ : zeroOk Γ.P = true) (hM : MemOK Γ w0 S0 X w S σ ob) {t tx ty : TypeId} {s x : AV} {vs vx : Value} {K : AV → Objs → Option R} {r : R}
    (hk : (∃ e', Γ.P.underlying tx = some (.slice e')) ∨ Γ.P.underlying tx = some .string) (hs : RepA Γ.P w S σ ob s vs) (hx : RepA Γ.P w S σ ob x vx)
    (h : opAppend Γ.P t s x ob K = some r) : Out Γ w0 S0 X w S σ ob K r (Builtin.append_ #[t, tx] ty #[vs, vx]) := by
  unfold opAppend at h
  split at h
  · rename_i e0 hd
    have hu := ds_some hd (by simp)
    obtain ⟨d, he⟩ := elem_slice hP hu
    obtain ⟨u1, u2, _, u4⟩ := underId_spec hP he
    obtain ⟨hfit, hh⟩ := cond_some h
    clear h
    have h := hh
    clear hh
    split at h
    · exact absurd h (by simp)
    · rename_i ys hys
      obtain ⟨news, hsrc, hfs⟩ := src_ok hP hM he hk hys hx
      have fresh : ∀ (v : Value), v = .slice none 0 0 → RepA Γ.P w S σ ob s v → (onNil ys (K s ob) (bif roomB ys.length (Γ.P.bytesOf e0) then K (.ref (underId Γ.P e0) ob.length) (ob ++ [some (.arr (underId Γ.P e0) ys false)]) else none) = some r) →
          Out Γ w0 S0 X w S σ ob K r (Builtin.append_ #[t, tx] ty #[v, vx]) := by
        rintro v rfl hrep h
        rcases onNil_some h with ⟨rfl, h⟩ | ⟨hne, h⟩
        · exact out_same hM h (nothing_ok hu he (Nat.le_refl _) hsrc) hrep
        · obtain ⟨hroom, h⟩ := cond_some h
          have hpos : 0 < ys.length := List.length_pos_iff.2 hne
          obtain ⟨w', σ', cv, h1, h2, h3⟩ := grow_ok (ty := ty) (xs := []) (olds := []) (base := none) (cap := 0) hP hZ hM hu he hfit false (run_firstCells_none _ _ _ _ _) (by simp [RepFs]) hsrc hfs (by simpa using hpos) (by simpa using hroom)
          exact ⟨_, _, h, cv, w', S, σ', h1, h2, h3⟩
      split at h
      · exact fresh _ (by simpa only [RepA] using hs) hs h
      · simp only [RepA] at hs
        obtain ⟨a, cap, rfl, hc, hr⟩ := hs
        simp only [CapOK] at hc
        obtain ⟨rfl, _, rfl⟩ := hc
        exact fresh _ rfl (by simp only [RepA]; exact ⟨none, 0, rfl, ⟨rfl, rfl, rfl⟩, .inl trivial⟩) h
      · rename_i e' xs
        simp only [RepA] at hs
        obtain ⟨a, cap, rfl, hc, hr⟩ := hs
        have hc2 := hc
        simp only [CapOK] at hc2
        obtain ⟨hsome, rfl⟩ := hc2
        rcases onNil_some h with ⟨rfl, h⟩ | ⟨hne, h⟩
        · exact out_same hM h (nothing_ok hu he (Nat.le_refl _) hsrc) (by simp only [RepA]; exact ⟨a, _, rfl, hc, hr⟩)
        · obtain ⟨hcond, h9⟩ := cond_some h
          clear h
          simp only [Bool.and_eq_true] at hcond
          obtain rfl := beq_id hcond.1
          have hpos : 0 < ys.length := List.length_pos_iff.2 hne
          obtain ⟨olds, ho1, ho2⟩ : ∃ olds, (Builtin.firstCells (Γ.P.cellsOf e0) xs.length (.slice a xs.length xs.length)).run Γ.P w.drew = .ok olds.toArray w.drew ∧ RepFs Γ.P w S xs (List.replicate xs.length e0) olds := by
            obtain ⟨a', rfl⟩ := Option.isSome_iff_exists.1 hsome
            rcases hr with rfl | ⟨b, o, hab, hr⟩
            · exact ⟨[], run_firstCells_some w.drew _ 0 _ _ _ [] (by simp) (fun j u hu => by simp at hu), by simp [RepFs]⟩
            · cases hab
              obtain ⟨vs, h1, h2⟩ := RowV.flat hP hr.toV
              have h1 := RepFs.back hP he h1
              have hs := RepFs.size hP _ _ _ h1
              rw [sumCells_replicate] at hs
              exact ⟨vs, run_firstCells_some w.drew _ _ _ _ _ vs hs (fun j u hu => by rw [Addr.add_lit]; exact h2 j u hu), h1⟩
          obtain ⟨w', σ', cv, h1, h2, h3⟩ := grow_ok (ty := ty) (xs := xs) (olds := olds) (base := a) (cap := xs.length) hP hZ hM hu he hfit false ho1 ho2 hsrc hfs (by omega) hcond.2
          exact ⟨_, _, h9, cv, w', S, σ', h1, h2, h3⟩
      · rename_i e' xs
        simp only [RepA] at hs
        obtain ⟨a, cap, rfl, hc, hr⟩ := hs
        have hc2 := hc
        simp only [CapOK] at hc2
        obtain ⟨rfl, hnone⟩ := hc2
        rcases onNil_some h with ⟨rfl, h⟩ | ⟨hne, h⟩
        · exact out_same hM h (nothing_ok hu he (Nat.le_refl _) hsrc) (by simp only [RepA]; exact ⟨a, _, rfl, hc, hr⟩)
        · obtain ⟨hcond, h9⟩ := cond_some h
          clear h
          simp only [Bool.and_eq_true] at hcond
          obtain rfl := beq_id hcond.1
          have hpos : 0 < ys.length := List.length_pos_iff.2 hne
          obtain ⟨olds, ho1, ho2⟩ : ∃ olds, (Builtin.firstCells (Γ.P.cellsOf e0) xs.length (.slice a xs.length xs.length)).run Γ.P w.drew = .ok olds.toArray w.drew ∧ RepFs Γ.P w S xs (List.replicate xs.length e0) olds := by
            rcases hr with rfl | ⟨b, o, hab, hr⟩
            · cases a with
              | none => exact ⟨[], run_firstCells_none _ _ _ _ _, by simp [RepFs]⟩
              | some a' => exact ⟨[], run_firstCells_some w.drew _ 0 _ _ _ [] (by simp) (fun j u hu => by simp at hu), by simp [RepFs]⟩
            · cases hab
              obtain ⟨vs, h1, h2⟩ := RowV.flat hP hr.toV
              have h1 := RepFs.back hP he h1
              have hs := RepFs.size hP _ _ _ h1
              rw [sumCells_replicate] at hs
              exact ⟨vs, run_firstCells_some w.drew _ _ _ _ _ vs hs (fun j u hu => by rw [Addr.add_lit]; exact h2 j u hu), h1⟩
          obtain ⟨w', σ', cv, h1, h2, h3⟩ := grow_ok (ty := ty) (xs := xs) (olds := olds) (base := a) (cap := xs.length) hP hZ hM hu he hfit false ho1 ho2 hsrc hfs (by omega) hcond.2
          exact ⟨_, _, h9, cv, w', S, σ', h1, h2, h3⟩
      · rename_i e' j
        split at h
        · rename_i e1 xs fz hob
          obtain ⟨hcond, h9⟩ := cond_some h
          clear h
          simp only [Bool.and_eq_true] at hcond
          obtain rfl := beq_id hcond.1
          simp only [RepA] at hs
          obtain ⟨_, b, n, cap, rfl, ha⟩ := hs
          obtain ⟨rfl, rfl, rfl, rfl⟩ := ha _ _ _ hob
          have hO := hM.objs j _ hob
          simp only [ObjAt] at hO
          obtain ⟨cs, el, fr, hb, hnf, hcs, hle, hrow, hel, hS⟩ := hO
          have hown := hM.own j _ hob
          have t1 := hM.kill j
          obtain ⟨olds, ho1, ho2⟩ := RowV.flat hP hrow
          have ho1 := RepFs.back hP he ho1
          have hlo := RepFs.size hP _ _ _ ho1
          rw [sumCells_replicate] at hlo
          have hln := hsrc.newsLen
          rw [u2] at hcs hS
          by_cases hg : xs.length + ys.length ≤ (σ j).2
          · let b := (σ j).1
            let w1 := w.setCells b (0 + xs.length * Γ.P.cellsOf e0) news
            have hcsz : 0 + xs.length * Γ.P.cellsOf e0 + news.length ≤ cs.size := by rw [hcs, hln, Nat.zero_add, ← Nat.add_mul]; exact Nat.mul_le_mul_right _ hg
            obtain ⟨i, hi⟩ := info_of_und he
            have hsz : i.size = Γ.P.cellsOf e0 := by have := size_of_und he; rw [hi] at this; simpa using this
            have hrun := run_append_room_src (P := Γ.P) w t tx ty e0 i (und_lt hu).2 hi b 0 xs.length (σ j).2 vx ys.length news (by rw [hsz]; exact hsrc) hg
              (fun k hk => by
                rw [hsz]
                simp only [World.cell?, b, hb, Option.isSome_none, Bool.false_eq_true, if_false]
                rw [Array.getElem?_eq_getElem (by omega)]; rfl)
              (fun k hk => by
                rw [hsz]
                have := hnf (0 + xs.length * Γ.P.cellsOf e0 + k) (by omega)
                simp only [World.frozen?, b, hb]
                simpa using this)
            rw [hsz] at hrun
            have hw1 : w1.heap[b]? = some (.cells (putCs cs.toList (0 + xs.length * Γ.P.cellsOf e0) news).toArray el fr) := setCells_heap news _ w cs.toList el fr (by simpa using hb) (by simpa using hcsz)
            have hk1 : Keeps w S w1 S := fun y hy => ⟨by
              by_cases hyb : y.block = b
              · obtain ⟨_, hoff, hsp⟩ := hS y hy hyb
                obtain ⟨yb, yo, ysp⟩ := y
                simp only at hyb hoff hsp
                subst hyb; subst hsp
                simp only [World.cell?, hw1, b, hb, Option.isSome_none, Bool.false_eq_true, if_false]
                simp only [List.getElem?_toArray, putCs]
                rw [List.append_assoc, List.getElem?_append_left (by simp; omega), List.getElem?_take]
                rw [if_pos (by omega)]; simp
              · exact cell_of_heap (setCells_heap_ne hyb news _ w), hy⟩
            have hne : ∀ (k : Nat) (o : Obj), (ob.set j none)[k]? = some (some o) → (σ k).1 ≠ b := fun k o hk => by
              obtain ⟨h1, h2⟩ := get_kill hk
              exact hM.apart k j _ _ h2 hob h1
            have t2 : Trans Γ w0 S0 X w S σ (ob.set j none) w1 S σ (ob.set j none) := t1.1.touch hown.1 hne (fun b' hb' => setCells_heap_ne hb' news _ w) (setCells_size news _ w) hk1 (fun n hn => by
              obtain ⟨cs0, el0, fr0, q1, q2⟩ := hn
              rw [hb] at q1
              cases q1
              exact ⟨_, _, _, hw1, by rw [← q2]; simp only [putCs, List.size_toArray, List.length_append, List.length_take, List.length_drop, Array.length_toList]; omega⟩) (setCells_env news _ w)
            have hpre : ∀ n, n < 0 + xs.length * Γ.P.cellsOf (underId Γ.P e0) → w1.cell? ⟨b, n, none⟩ = w.cell? ⟨b, n, none⟩ := fun n hn => by
              rw [u2] at hn
              simp only [World.cell?, hw1, b, hb, Option.isSome_none, Bool.false_eq_true, if_false]
              simp only [List.getElem?_toArray, putCs]
              rw [List.append_assoc, List.getElem?_append_left (by simp; omega), List.getElem?_take]
              rw [if_pos (by omega)]; simp
            have hrow1 : RowV Γ.P w1 S xs (underId Γ.P e0) b 0 := RowV.keepIn hk1 hP hpre hrow
            have hrow2 : RowV Γ.P w1 S ys e0 b (0 + xs.length * Γ.P.cellsOf e0) := RowV.ofFs hP (RepFs.keep hk1 _ _ _ hfs) (fun q v hq => by
              have hql := getL hq
              simp only [World.cell?, hw1, Option.isSome_none, Bool.false_eq_true, if_false]
              simp only [List.getElem?_toArray, putCs]
              rw [List.append_assoc, List.getElem?_append_right (by simp; omega), List.getElem?_append_left (by simp; omega)]
              rw [← hq]; congr 1; simp; omega)
            have hrow : RowV Γ.P w1 S (xs ++ ys) (underId Γ.P e0) b 0 := RowV.append hrow1 (by rw [u2]; exact hrow2.under hP he)
            have t3 := t2.1.add (o := .arr (underId Γ.P e0) (xs ++ ys) fz) (b := b) (c := (σ j).2) (by rw [setCells_size]; exact hown.2) hown.1 hne (by
              simp only [ObjAt, more_new]
              refine ⟨_, el, fr, hw1, fun o ho => hnf o ?_, ?_, by rw [List.length_append]; exact hg, hrow, hel, fun y hy hyb => ?_⟩
              · have hl1 : (putCs cs.toList (0 + xs.length * Γ.P.cellsOf e0) news).toArray.size = cs.size := by simp [putCs]; omega
                rw [hl1] at ho; exact ho
              · have hl1 : (putCs cs.toList (0 + xs.length * Γ.P.cellsOf e0) news).toArray.size = cs.size := by simp [putCs]; omega
                rw [hl1, u2, hcs]
              · obtain ⟨h1, h2, h3⟩ := hS y hy hyb
                exact ⟨h1, by rw [u2, List.length_append, Nat.add_mul]; omega, h3⟩)
            rw [List.length_set] at t3
            refine ⟨_, _, h9, _, w1, S, _, hrun, (t1.trans t2).trans t3, ?_⟩
            simp only [RepA]
            refine ⟨by simp, b, _, _, rfl, fun e' xs' fz' hc => ?_⟩
            rcases get_more hc with ⟨hl, _⟩ | ⟨_, he'⟩
            · rw [List.length_set] at hl; omega
            · cases he'
              rw [more_new, List.length_append]
              exact ⟨rfl, rfl, rfl, rfl⟩
          · obtain ⟨w', σ', cv, h1, h2, h3⟩ := grow_ok (ty := ty) (xs := xs) (olds := olds) (base := some ⟨(σ j).1, 0, none⟩) (cap := (σ j).2) hP hZ t1.1 hu he hfit fz
              (run_firstCells_some w.drew _ _ _ _ _ olds hlo (fun k u hu => by rw [Addr.add_lit]; exact ho2 k u hu)) ho1 hsrc hfs (by omega) hcond.2
            rw [List.length_set] at h3
            exact ⟨_, _, h9, cv, w', S, σ', h1, t1.trans h2, h3⟩
        · exact absurd h (by simp)
      · exact absurd h (by simp)
  · exact absurd h (by simp)
end
end Go.Proofs.Ytapaenfafjmljaa.V

/- Operations. Part nine: conversions, slices of slices, lengths, least and greatest. -/
namespace Go.Proofs.Ytapaenfafjmljaa.V
open Go
set_option linter.unusedVariables false
set_option linter.unusedSimpArgs false

section
variable {Γ : Ctx} {w0 : World} {S0 : Addr → Prop} {X : XB} {w w' : World} {S S' : Addr → Prop} {σ σ' : Loc} {ob ob' : Objs} {R : Type}

/-! ### lengths -/
theorem len_ok (hM : MemOK Γ w0 S0 X w S σ ob) {ts : List TypeId} {t : TypeId} {ty : TypeId} {a : AV} {va : Value} {l : List AV} {lv : List Value} {K : AV → Objs → Option R} {r : R}
    (ha : RepA Γ.P w S σ ob a va) (h : opBuiltin Γ.P .len (t :: ts) (a :: l) ob K = some r) : Out Γ w0 S0 X w S σ ob K r (Builtin.len_ (t :: ts).toArray ty (va :: lv).toArray) := by
  simp only [opBuiltin] at h
  split at h
  · rename_i n e hd
    exact out_same hM h (by simp [Builtin.len_, run_underlying (und_lt (ds_some hd (by simp))).2, goInt]) repI
  · rename_i p hd
    split at h
    · rename_i n e hd'
      exact out_same hM h (by simp [Builtin.len_, run_underlying (und_lt (ds_some hd (by simp))).2, run_underlying (und_lt (ds_some hd' (by simp))).2, goInt]) repI
    · exact absurd h (by simp)
  · rename_i hd
    split at h
    · rename_i l
      simp only [RepA] at ha
      obtain ⟨s, rfl, rfl⟩ := ha
      refine out_same hM h (cv := .int .i64 s.data.toList.length) ?_ repI
      simp [Builtin.len_, run_underlying (und_lt (ds_some hd (by simp))).2, goInt]
    · exact absurd h (by simp)
  · rename_i e hd
    have hu := (und_lt (ds_some hd (by simp))).2
    split at h
    · rename_i n hn
      refine out_same hM h (cv := .int .i64 n) ?_ repI
      have : ∃ b c, va = .slice b n c := by
        cases a <;> simp only [lenA] at hn
        case snil => cases hn; simp only [RepA] at ha; exact ⟨_, _, ha⟩
        case sl e' c xs => cases hn; simp only [RepA] at ha; obtain ⟨b, cap, rfl, _⟩ := ha; exact ⟨_, _, rfl⟩
        case ref e' j =>
          split at hn
          · rename_i e1 xs fz hob
            cases hn
            simp only [RepA] at ha
            obtain ⟨_, b, m, cap, rfl, hq⟩ := ha
            obtain ⟨rfl, rfl, rfl, rfl⟩ := hq _ _ _ hob
            exact ⟨_, _, rfl⟩
          · exact absurd hn (by simp)
        all_goals exact absurd hn (by simp)
      obtain ⟨b, c, rfl⟩ := this
      simp [Builtin.len_, run_underlying hu, goInt]
    · exact absurd h (by simp)
  · exact absurd h (by simp)

theorem minL_run {k : IntKind} : ∀ (l : List AV) (lv : List Value) (x y : Int), RepAs Γ.P w S σ ob l lv → minL k x l = some y → (lv.foldlM Builtin.min2 (.int k x)).run Γ.P w = .ok (.int k y) w
  | [], lv, x, y, h, hm => by simp only [RepAs] at h; subst h; simp only [minL] at hm; cases hm; simp
  | a :: r, lv, x, y, h, hm => by
    simp only [RepAs] at h
    obtain ⟨v, vs', rfl, h1, h2⟩ := h
    cases a <;> simp only [minL] at hm
    case i k' n =>
      simp only [RepA] at h1; subst h1
      have := minL_run r vs' _ y h2 hm
      simp only [List.foldlM_cons, Builtin.min2, Sem.run_bind, Sem.run_pure, Result.andThen_ok]
      by_cases hn : n < x
      · rw [if_pos hn]; simpa [hn] using this
      · rw [if_neg hn]; simpa [hn] using this
    all_goals exact absurd hm (by simp)
theorem maxL_run {k : IntKind} : ∀ (l : List AV) (lv : List Value) (x y : Int), RepAs Γ.P w S σ ob l lv → maxL k x l = some y → (lv.foldlM Builtin.max2 (.int k x)).run Γ.P w = .ok (.int k y) w
  | [], lv, x, y, h, hm => by simp only [RepAs] at h; subst h; simp only [maxL] at hm; cases hm; simp
  | a :: r, lv, x, y, h, hm => by
    simp only [RepAs] at h
    obtain ⟨v, vs', rfl, h1, h2⟩ := h
    cases a <;> simp only [maxL] at hm
    case i k' n =>
      simp only [RepA] at h1; subst h1
      have := maxL_run r vs' _ y h2 hm
      simp only [List.foldlM_cons, Builtin.max2, Sem.run_bind, Sem.run_pure, Result.andThen_ok]
      by_cases hn : n > x
      · rw [if_pos hn]; simpa [show x < n from hn] using this
      · rw [if_neg hn]; simpa [show ¬ x < n from hn] using this
    all_goals exact absurd hm (by simp)

/-! ### slices of slices -/
/-- what is to be known of a bound -/
def OptRep (Γ : Ctx) (w : World) (S : Addr → Prop) (σ : Loc) (ob : Objs) (a : Option AV) (va : Option Value) : Prop :=
  match a, va with | none, none => True | some x, some v => RepA Γ.P w S σ ob x v | _, _ => False
theorem bnd_ok {a : Option AV} {va : Option Value} {df top : Nat} {K : Nat → Option R} {r : R} (h : bnd a df top K = some r)
    (hv : OptRep Γ w S σ ob a va) :
    ∃ n, K n = some r ∧ (a = none → n = df) ∧ ∀ v, va = some v → n ≤ top ∧ ∀ y code, top ≤ y → (Instr.sliceBound v y code).run Γ.P w = .ok n w := by
  cases a with
  | none =>
    cases va with
    | none => exact ⟨df, h, fun _ => rfl, fun v hv => by cases hv⟩
    | some v => exact hv.elim
  | some x =>
    cases va with
    | none => exact hv.elim
    | some v =>
      cases x <;> simp only [bnd] at h
      case i k n =>
        obtain ⟨h1, h2⟩ := cond_some h
        simp only [Bool.and_eq_true, decide_eq_true_eq] at h1
        simp only [OptRep, RepA] at hv
        subst hv
        refine ⟨n.toNat, h2, (by intro e; cases e), fun v' hv' => ?_⟩
        cases hv'
        refine ⟨by omega, fun y code hy => ?_⟩
        have : 0 ≤ n ∧ n ≤ (y : Int) := ⟨h1.1, by omega⟩
        simp only [Instr.sliceBound, asIntOf, Sem.run_bind, Sem.run_pure, Result.andThen_ok, this, and_self, if_true]
      all_goals exact absurd h (by simp)
theorem bounds_ok {lo hi : Option AV} {vlo vhi : Option Value} {len cap : Nat} {isS : Bool} {K : Nat → Nat → Option R} {r : R} (hc : len ≤ cap)
    (h : (bnd hi len len fun h => bnd lo 0 h fun a => K h a) = some r) (h1 : OptRep Γ w S σ ob hi vhi) (h2 : OptRep Γ w S σ ob lo vlo) :
    ∃ l h, K h l = some r ∧ l ≤ h ∧ h ≤ len ∧ (lo = none → l = 0) ∧ (Instr.sliceBounds isS len cap vlo vhi none).run Γ.P w = .ok (l, h, cap) w := by
  obtain ⟨n, hn, hd, hr⟩ := bnd_ok h h1
  obtain ⟨m, hm, hd2, hr2⟩ := bnd_ok hn h2
  cases vhi with
  | none =>
    cases hi with
    | some _ => exact h1.elim
    | none =>
      obtain rfl := hd rfl
      cases vlo with
      | none =>
        cases lo with
        | some _ => exact h2.elim
        | none =>
          obtain rfl := hd2 rfl
          exact ⟨_, _, hm, by omega, by omega, fun _ => rfl, by simp [Instr.sliceBounds]⟩
      | some v =>
        obtain ⟨g1, g2⟩ := hr2 v rfl
        exact ⟨_, _, hm, g1, by omega, hd2, by simp [Instr.sliceBounds, g2 _ _ (Nat.le_refl _)]⟩
  | some vh =>
    obtain ⟨g1, g2⟩ := hr vh rfl
    cases vlo with
    | none =>
      cases lo with
      | some _ => exact h2.elim
      | none =>
        obtain rfl := hd2 rfl
        refine ⟨_, _, hm, by omega, g1, fun _ => rfl, ?_⟩
        simp [Instr.sliceBounds, g2 _ _ hc]
    | some v =>
      obtain ⟨g3, g4⟩ := hr2 v rfl
      refine ⟨_, _, hm, g3, g1, hd2, ?_⟩
      simp [Instr.sliceBounds, g2 _ _ hc, g4 _ _ (Nat.le_refl _)]
theorem extract_list {s : ByteArray} {l h : Nat} : (s.extract l h).data.toList = (s.data.toList.drop l).take (h - l) := by
  rw [ByteArray.data_extract, Array.toList_extract]
theorem bounds3_ok {len cap : Nat} (hcap : len ≤ cap) {lo hi m : Option AV} {vlo : Option Value} {vh vm : Value} {K : Nat → Nat → Option R} {r : R}
    (h : (bnd m 0 len fun m => bnd hi 0 m fun h => bnd lo 0 h fun a => bif Nat.beq h m then K a h else none) = some r) (h3 : OptRep Γ w S σ ob m (some vm)) (h2 : OptRep Γ w S σ ob hi (some vh)) (h1 : OptRep Γ w S σ ob lo vlo) :
    ∃ l hh, K l hh = some r ∧ (l ≤ hh ∧ (Instr.sliceBounds true len cap vlo (some vh) (some vm)).run Γ.P w = .ok (l, hh, hh) w) ∧ hh ≤ len := by
  obtain ⟨m, hm, _, hr2⟩ := bnd_ok h h3
  obtain ⟨gm, gm2⟩ := hr2 vm rfl
  obtain ⟨hh, hn, _, hr3⟩ := bnd_ok hm h2
  obtain ⟨gh, gh2⟩ := hr3 vh rfl
  obtain ⟨l, hK, hd2, hr4⟩ := bnd_ok hn h1
  obtain ⟨hhm, hK2⟩ := cond_some hK
  obtain rfl := beq_id hhm
  have hl : l ≤ hh ∧ (Instr.sliceBounds true len cap vlo (some vh) (some vm)).run Γ.P w = .ok (l, hh, hh) w := by
    cases vlo with
    | none =>
      cases lo with
      | some _ => exact h1.elim
      | none =>
        obtain rfl := hd2 rfl
        refine ⟨by omega, ?_⟩
        simp [Instr.sliceBounds, gm2 _ _ hcap, gh2 _ _ (Nat.le_refl _)]
    | some v =>
      obtain ⟨g3, g4⟩ := hr4 v rfl
      refine ⟨g3, ?_⟩
      simp [Instr.sliceBounds, gm2 _ _ hcap, gh2 _ _ (Nat.le_refl _), g4 _ _ (Nat.le_refl _)]
  exact ⟨l, hh, hK2, hl, gm⟩
/-- a part of data -/
theorem part_sl (hP : tabOk Γ.P = true) {e : TypeId} {xs : List D} {l h m : Nat} {a : Option Addr} (hl : l ≤ h) (hh : h ≤ xs.length) (hm : h ≤ m) (ha : a = none → m = 0) {sz : Nat} (hsz : sz = Γ.P.cellsOf e)
    (hr : xs = [] ∨ ∃ b o, a = some ⟨b, o, none⟩ ∧ RepRow Γ.P w S xs e b o) :
    RepA Γ.P w S σ ob (.sl e .any ((xs.drop l).take (h - l))) (.slice (if m = l then a else a.map (·.add (l * sz))) (h - l) (m - l)) := by
  subst hsz
  simp only [RepA]
  have hlen : ((xs.drop l).take (h - l)).length = h - l := by simp; omega
  refine ⟨_, _, by rw [hlen], ⟨by omega, fun hn => ?_⟩, ?_⟩
  · by_cases hml : m = l
    · omega
    · rw [if_neg hml] at hn
      have := ha (by simpa using hn)
      omega
  rcases hr with rfl | ⟨b, o, rfl, hr⟩
  · exact .inl (by simp)
  · by_cases hml : m = l
    · exact .inl (by rw [show h - l = 0 by omega]; rfl)
    · rw [if_neg hml]
      exact .inr ⟨b, o + l * Γ.P.cellsOf e, by simp [Addr.add_lit], RepRow.take _ (RepRow.drop _ hr)⟩
/-- likewise, with no room behind it -/
theorem part_cl (hP : tabOk Γ.P = true) {e : TypeId} {xs : List D} {l h : Nat} {a : Option Addr} (hl : l ≤ h) (hh : h ≤ xs.length) (ha : a = none → h = 0) {sz : Nat} (hsz : sz = Γ.P.cellsOf e)
    (hr : xs = [] ∨ ∃ b o, a = some ⟨b, o, none⟩ ∧ RepRow Γ.P w S xs e b o) :
    RepA Γ.P w S σ ob (.sl e .cl ((xs.drop l).take (h - l))) (.slice (if h = l then a else a.map (·.add (l * sz))) (h - l) (h - l)) := by
  have := part_sl (w := w) (S := S) (σ := σ) (ob := ob) hP hl hh (Nat.le_refl _) ha hsz hr
  simp only [RepA] at this ⊢
  have hlen : ((xs.drop l).take (h - l)).length = h - l := by simp; omega
  rw [hlen] at this ⊢
  obtain ⟨a', cap, he, hc, hr'⟩ := this
  cases he
  exact ⟨_, _, rfl, ⟨rfl, hc.2⟩, hr'⟩
/-- (f) cells of a block that no object has are data from now on -/
theorem MemOK.shine {S' : Addr → Prop} (h : MemOK Γ w0 S0 X w S σ ob) {b : Nat} (hX : X b ∨ w0.heap.size ≤ b) (hlt : b < w.heap.size) (hd : ∀ j o, ob[j]? = some (some o) → (σ j).1 ≠ b)
    (hS : ∀ a, S a → S' a) (hS' : ∀ a, S' a → S a ∨ a.block = b) : Trans Γ w0 S0 X w S σ ob w S' σ ob := by
  have hk : Keeps w S w S' := fun a ha => ⟨rfl, hS a ha⟩
  refine ⟨?_, fun a v r => RepA.keep hk (Stays.refl σ ob) a v r, hk⟩
  refine { objs := ?_, apart := h.apart, own := h.own, old := h.old, grow := h.grow, s0 := fun a ha => hS a (h.s0 a ha), snew := ?_, sin := ?_, glob := ?_, env := h.env, kept := h.kept.trans hk, root := h.root }
  · intro i x hx
    refine (h.objs i x hx).keep hk (Stays.refl σ ob) rfl rfl fun y hy hyb => ?_
    rcases hS' y hy with hy | hy
    · exact hy
    · exact absurd (hyb.symm.trans hy) (hd i x hx)
  · intro a ha
    rcases hS' a ha with ha | ha
    · exact h.snew a ha
    · rw [ha]; exact .inr hX
  · intro a ha
    rcases hS' a ha with ha | ha
    · exact h.sin a ha
    · rw [ha]; exact hlt
  · refine ⟨fun g t x hx => ?_, fun g hg => (h.glob.ifs g hg).keep hk⟩
    obtain ⟨vs, h1, h2⟩ := h.glob.data g t x hx
    exact ⟨vs, h1.keep hk, RepT.keep hk _ _ _ h2.1, h2.2⟩
/-- a whole array's slice: from now on it is data -/
theorem sliceBox_ok (hP : tabOk Γ.P = true) (hM : MemOK Γ w0 S0 X w S σ ob) {own : Bool} {t : TypeId} {x : AV} {lo hi mx : Option AV} {vx : Value} {vlo vhi vmx : Option Value} {K : AV → Objs → Option R} {r : R}
    (hx : RepA Γ.P w S σ ob x vx) (h1 : OptRep Γ w S σ ob lo vlo) (h2 : OptRep Γ w S σ ob hi vhi) (h3 : OptRep Γ w S σ ob mx vmx) {n : Nat} {e0 : TypeId} (hd : ds Γ.P t = .array n e0) (h : opSlice Γ.P own t x lo hi mx ob K = some r) :
    Out Γ w0 S0 X w S σ ob K r (Instr.sliceAt t vx vlo vhi vmx) := by
  have no : ∀ {a : Option AV} {v : Option Value}, OptRep Γ w S σ ob a v → a = none → v = none := by
    rintro a v ho rfl
    cases v with
    | none => rfl
    | some v => exact ho.elim
  have ht := ds_some hd (by simp)
  obtain ⟨de, he⟩ := elem_array hP ht
  obtain ⟨u1, u2, _, u4⟩ := underId_spec hP ht
  unfold opSlice at h
  rw [hd] at h
  cases x <;> try (simp only at h; exact absurd h (by simp))
  rename_i j p u
  cases p with
  | cons _ _ => simp only at h; exact absurd h (by simp)
  | nil =>
  simp only at h
  split at h
  · rename_i tb u' xs hob
    obtain rfl := no h1 rfl
    obtain rfl := no h2 rfl
    obtain rfl := no h3 rfl
    obtain ⟨hb, hK⟩ := cond_some h
    obtain rfl := beq_id hb
    simp only [RepA] at hx
    obtain ⟨hl, b, off, rfl, hx⟩ := hx
    obtain ⟨rfl, hoff⟩ := hx _ _ hob
    simp only [offP, u1, Option.map_some, Option.some.injEq, Prod.mk.injEq] at hoff
    obtain ⟨rfl, _⟩ := hoff
    have hO := hM.objs j _ hob
    simp only [ObjAt] at hO
    obtain ⟨vs, el, fr, hbl, hnf, hel, hlen, hbox, hone, hS⟩ := hO
    obtain ⟨hfit, v, hv, hrep⟩ := hbox
    simp only [RepA] at hrep
    obtain ⟨cs, rfl, hrt, _⟩ := hrep
    have hcs : cs = vs := by simpa [Value.cells] using hv
    subst hcs
    have hu' : u' = underId Γ.P t := by
      simp only [fits, isTy, ds, u1, Option.getD_some] at hfit
      rw [beq_id hfit, u4]
    subst hu'
    simp only [RepT] at hrt
    have hfs : ∃ m e', und Γ.P (underId Γ.P t) = some (.array m e') ∧ xs.length = m ∧ RepFs Γ.P w S xs (List.replicate m e') cs := by
      rcases hrt with ⟨flds, q, _⟩ | q
      · rw [u1] at q; simp at q
      · exact q
    obtain ⟨m, e', q1, q2, q3⟩ := hfs
    rw [u1] at q1
    cases q1
    have hown := hM.own j _ hob
    let S' : Addr → Prop := fun y => S y ∨ (y.block = (σ j).1 ∧ y.off < xs.length * Γ.P.cellsOf (underId Γ.P e0) ∧ y.spot = none)
    have t1 := hM.kill j
    have t2 := t1.1.shine (S' := S') (b := (σ j).1) hown.1 hown.2 (fun k o hk => by
      obtain ⟨g1, g2⟩ := get_kill hk
      exact hM.apart k j _ _ g2 hob g1) (fun _ hy => .inl hy) (fun y hy => hy.imp id (·.1))
    have hrow : RowV Γ.P w S xs e0 (σ j).1 0 := RowV.ofFs hP q3 (fun k v hk => by
      simp only [World.cell?, hbl, Nat.zero_add]
      simpa using hk)
    have hrow' : RowV Γ.P w S' xs (underId Γ.P e0) (σ j).1 0 := (RowV.keep t2.keeps (fun _ => rfl) hrow).under hP he
    refine ⟨_, _, hK, .slice (some ⟨(σ j).1, 0, none⟩) n n, w, S', σ, ?_, t1.trans t2, ?_⟩
    · simp [Instr.sliceAt, run_underlying (und_lt ht).2, Instr.sureAddr, Instr.sliceBounds, sizeOf_run he, Addr.add_lit]
    · simp only [RepA]
      refine ⟨_, _, by rw [q2], ⟨rfl, q2.symm⟩, ?_⟩
      cases hxs : xs with
      | nil => exact .inl rfl
      | cons x0 r0 =>
        refine .inr ⟨_, _, rfl, ?_⟩
        rw [← hxs]
        exact RowV.toRep hP (fun k _ hk => .inr ⟨rfl, by simpa using hk, rfl⟩) hrow'
  · exact absurd h (by simp)
theorem slice_ok (hP : tabOk Γ.P = true) (hM : MemOK Γ w0 S0 X w S σ ob) {own : Bool} {t : TypeId} {x : AV} {lo hi mx : Option AV} {vx : Value} {vlo vhi vmx : Option Value} {K : AV → Objs → Option R} {r : R}
    (hx : RepA Γ.P w S σ ob x vx) (h1 : OptRep Γ w S σ ob lo vlo) (h2 : OptRep Γ w S σ ob hi vhi) (h3 : OptRep Γ w S σ ob mx vmx) (hna : ∀ n e, ds Γ.P t ≠ .array n e) (h : opSlice Γ.P own t x lo hi mx ob K = some r) :
    Out Γ w0 S0 X w S σ ob K r (Instr.slice t vx vlo vhi vmx) := by
  have nomax : mx = none → vmx = none := by rintro rfl; cases vmx with | none => rfl | some v => exact h3.elim
  unfold opSlice at h
  split at h
  · rename_i l hd
    split at h
    · obtain rfl := nomax rfl
      simp only [RepA] at hx
      obtain ⟨s, rfl, rfl⟩ := hx
      rw [← size_len] at h
      obtain ⟨a, b, hK, g1, g2, _, hrun⟩ := bounds_ok (isS := false) (Nat.le_refl _) h h2 h1
      rw [← extract_list] at hK
      refine out_same hM hK (cv := .string (s.extract a b)) ?_ repS
      simp [Instr.slice, run_underlying (und_lt (ds_some hd (by simp))).2, hrun]
    · exact absurd h (by simp)
  · rename_i e0 hd
    have hs := ds_some hd (by simp)
    obtain ⟨d, he⟩ := elem_slice hP hs
    split at h
    · obtain rfl := nomax rfl
      simp only [RepA] at hx
      subst hx
      obtain ⟨a, b, hK, g1, g2, _, hrun⟩ := bounds_ok (isS := true) (Nat.le_refl _) h h2 h1
      have ha : a = 0 := by omega
      have hb : b = 0 := by omega
      subst ha; subst hb
      refine out_same hM hK (cv := .slice none 0 0) ?_ (by simp only [RepA])
      simp [Instr.slice, run_underlying (und_lt hs).2, hrun, sizeOf_run he]
    · exact absurd h (by simp)
  · rename_i e0 e c xs hd
    have hs := ds_some hd (by simp)
    obtain ⟨d, he⟩ := elem_slice hP hs
    obtain ⟨u1, u2, _, u4⟩ := underId_spec hP he
    obtain ⟨hb, h9⟩ := cond_some h
    obtain rfl := beq_id hb
    clear h
    simp only [RepA] at hx
    obtain ⟨a, cap, rfl, hc, hr⟩ := hx
    have hcap : xs.length ≤ cap := by cases c <;> simp only [CapOK] at hc <;> omega
    split at h9
    · obtain rfl := nomax rfl
      obtain ⟨l, h, hK, g1, g2, _, hrun⟩ := bounds_ok (isS := true) hcap h9 h2 h1
      refine out_same hM hK ?_ (part_sl hP g1 g2 (Nat.le_trans g2 hcap) hc.nc u2.symm hr)
      simp [Instr.slice, run_underlying (und_lt hs).2, hrun, sizeOf_run he]
    · rename_i m
      split at h9
      · rename_i hi
        cases vmx with
        | none => exact h3.elim
        | some vm =>
        cases vhi with
        | none => exact h2.elim
        | some vh =>
          obtain ⟨l, hh, hK, hl, gm⟩ := bounds3_ok hcap h9 h3 h2 h1
          refine out_same hM hK ?_ (part_cl hP hl.1 gm (fun hn => by have := hc.nc hn; omega) u2.symm hr)
          simp [Instr.slice, run_underlying (und_lt hs).2, hl.2, sizeOf_run he]
      · exact absurd h9 (by simp)
  · rename_i e0 e j hd
    have hs := ds_some hd (by simp)
    obtain ⟨d, he⟩ := elem_slice hP hs
    obtain ⟨u1, u2, _, u4⟩ := underId_spec hP he
    obtain ⟨hb, h9⟩ := cond_some h
    obtain rfl := beq_id hb
    clear h
    split at h9
    · rename_i e1 xs fz hob
      obtain rfl := nomax rfl
      have hx0 := hx
      simp only [RepA] at hx
      obtain ⟨_, b, n, cap, rfl, ha⟩ := hx
      obtain ⟨rfl, rfl, rfl, rfl⟩ := ha _ _ _ hob
      have hO := hM.objs j _ hob
      have hO' := hO
      simp only [ObjAt] at hO
      obtain ⟨cs, el, fr, hb, hnf, hcs, hle, hrow, hel, hS⟩ := hO
      have hown := hM.own j _ hob
      rcases cond_cases h9 with ⟨_, h⟩ | ⟨_, h⟩
      · split at h
        · obtain ⟨l, hh, hK, g1, g2, hl0, hrun⟩ := bounds_ok (isS := true) (lo := none) (K := fun h _ => K (.ref (underId Γ.P e0) ob.length) (ob.set j none ++ [some (.arr (underId Γ.P e0) (xs.take h) false)])) hle h h2 h1
          obtain rfl := hl0 rfl
          have t1 := hM.kill j
          have t2 := t1.1.add (o := .arr (underId Γ.P e0) (xs.take hh) false) (b := (σ j).1) (c := (σ j).2) hown.2 hown.1 (fun k o hk => by
            obtain ⟨h1, h2⟩ := get_kill hk
            exact hM.apart k j _ _ h2 hob h1) (by
            simp only [ObjAt, more_new]
            refine ⟨cs, el, fr, hb, hnf, hcs, by rw [List.length_take]; omega, RowV.take _ hrow, hel, fun y hy hyb => ?_⟩
            have := (hS y hy hyb).1
            simp at this)
          rw [List.length_set] at t2
          refine ⟨_, _, hK, .slice (some ⟨(σ j).1, 0, none⟩) hh (σ j).2, w, S, _, ?_, t1.trans t2, ?_⟩
          · simp [Instr.slice, run_underlying (und_lt hs).2, hrun, sizeOf_run he, Addr.add_lit]
          · simp only [RepA]
            refine ⟨by simp, (σ j).1, _, _, rfl, fun e' xs' fz' hc => ?_⟩
            rcases get_more hc with ⟨hl, _⟩ | ⟨_, he'⟩
            · rw [List.length_set] at hl; omega
            · cases he'
              rw [more_new, List.length_take, Nat.min_eq_left g2]
              exact ⟨rfl, rfl, rfl, rfl⟩
        · exact absurd h (by simp)
      · obtain ⟨l, hh, hK, g1, g2, _, hrun⟩ := bounds_ok (isS := true) hle h h2 h1
        obtain ⟨S', t1, hr1⟩ := frz_ok hP hM (a := .ref (underId Γ.P e0) j) (a' := .sl (underId Γ.P e0) .any xs) (ob' := ob.set j (some (.arr (underId Γ.P e0) xs true))) (by simp only [frz, hob]) hx0
        simp only [RepA] at hr1
        obtain ⟨a, cap, hv, _, hr⟩ := hr1
        cases hv
        refine ⟨_, _, hK, _, w, S', σ, ?_, t1, part_sl hP g1 g2 (Nat.le_trans g2 hle) (fun hn => by simp at hn) u2.symm hr⟩
        simp [Instr.slice, run_underlying (und_lt hs).2, hrun, sizeOf_run he]
    · rename_i e1 xs fz m hob
      have hx0 := hx
      simp only [RepA] at hx
      obtain ⟨_, b, n, cap, rfl, ha⟩ := hx
      obtain ⟨rfl, rfl, rfl, rfl⟩ := ha _ _ _ hob
      have hO := hM.objs j _ hob
      simp only [ObjAt] at hO
      obtain ⟨cs, el, fr, hb, hnf, hcs, hle, hrow, hel, hS⟩ := hO
      split at h9
      · rename_i hi
        cases vmx with
        | none => exact h3.elim
        | some vm =>
        cases vhi with
        | none => exact h2.elim
        | some vh =>
          obtain ⟨l, hh, hK, hl, gm⟩ := bounds3_ok hle h9 h3 h2 h1
          obtain ⟨S', t1, hr1⟩ := frz_ok hP hM (a := .ref (underId Γ.P e0) j) (a' := .sl (underId Γ.P e0) .any xs) (ob' := ob.set j (some (.arr (underId Γ.P e0) xs true))) (by simp only [frz, hob]) hx0
          simp only [RepA] at hr1
          obtain ⟨a, cap, hv, _, hr⟩ := hr1
          cases hv
          refine ⟨_, _, hK, _, w, S', σ, ?_, t1, part_cl hP hl.1 gm (fun hn => by simp at hn) u2.symm hr⟩
          simp [Instr.slice, run_underlying (und_lt hs).2, hl.2, sizeOf_run he]
      · exact absurd h9 (by simp)
    · exact absurd h9 (by simp)
  · rename_i hd; exact absurd hd (hna _ _)
  · exact absurd h (by simp)
/-! ### conversions -/
theorem modify_push {α : Type} (h : Array α) (x : α) (f : α → α) : (h.push x).modify h.size f = h.push (f x) := by
  apply Array.ext_getElem?
  intro i
  simp only [Array.getElem?_modify, Array.getElem?_push]
  by_cases hi : h.size = i
  · subst hi; simp
  · have : ¬ i = h.size := fun e => hi e.symm
    simp [hi, this]
def bytesRow (s : ByteArray) (cap : Nat) : Array Value := (s.data.map fun (b : UInt8) => Value.int .u8 b.toNat) ++ Array.replicate (cap - s.size) (.int .u8 0)
theorem toBytes_run {e : TypeId} {s : ByteArray} : (Conv.stringToBytes e s).run Γ.P w = .ok (.slice (some ⟨w.heap.size, 0, none⟩) s.size (grownCap w s.size 0 e))
    { w.drew with heap := w.heap.push (.cells (bytesRow s (grownCap w s.size 0 e)) e ((bytesRow s (grownCap w s.size 0 e)).size, (bytesRow s (grownCap w s.size 0 e)).size + 1)) } := by
  have hq : (Question.appendCap s.size 0 e).forced = false := rfl
  simp only [Conv.stringToBytes, Sem.run_bind, run_choose, hq, Bool.false_eq_true, if_false, Result.andThen_ok, newRow, newObj, markStringish, Sem.run_pure]
  simp only [Sem.run, Result.andThen_ok, Sem.run_bind, run_shape, World.shape?, Array.getElem?_push_size, run_freeze, World.freeze]
  simp only [Nat.one_ne_zero, if_false, Array.size_push, modify_push, Sem.run_pure, beq_self_eq_true, if_true, Result.andThen_ok]
  rfl
theorem unBytes_spec : ∀ {xs : List D} {l : List UInt8} {n : Nat} {e : TypeId} {vs : List Value}, RepFs Γ.P w S xs (List.replicate n e) vs → unBytes xs = some l →
    ∃ ns : List Int, vs = ns.map (Value.int .u8) ∧ l = ns.map fun n => UInt8.ofNat n.toNat
  | [], l, n, e, vs, h, hu => by
    simp only [unBytes] at hu; cases hu
    simp only [RepFs] at h
    exact ⟨[], by simp [h.2], rfl⟩
  | .int k m :: r, l, 0, e, vs, h, hu => by simp [RepFs] at h
  | .int k m :: r, l, n + 1, e, vs, h, hu => by
    cases k <;> simp only [unBytes] at hu
    case u8 =>
      simp only [List.replicate_succ, RepFs] at h
      obtain ⟨t, ts', v1, v2, h1, rfl, h3, h4⟩ := h
      cases h1
      simp only [RepT] at h3
      obtain ⟨l', hl', rfl⟩ := Option.map_eq_some_iff.1 hu
      obtain ⟨ns, rfl, rfl⟩ := unBytes_spec h4 hl'
      exact ⟨m :: ns, by simp [h3.2], rfl⟩
    all_goals exact absurd hu (by simp)
  | .bool _ :: r, l, n, e, vs, h, hu => by simp [unBytes] at hu
  | .str _ :: r, l, n, e, vs, h, hu => by simp [unBytes] at hu
  | .slice _ _ :: r, l, n, e, vs, h, hu => by simp [unBytes] at hu
  | .agg _ :: r, l, n, e, vs, h, hu => by simp [unBytes] at hu
theorem foldl_push (ns : List Int) : ∀ (s : ByteArray), (ns.foldl (fun r n => r.push (UInt8.ofNat n.toNat)) s).data.toList = s.data.toList ++ ns.map fun n => UInt8.ofNat n.toNat := by
  induction ns with
  | nil => intro s; simp
  | cons n r ih => intro s; rw [List.foldl_cons, ih]; simp [ByteArray.push]
theorem convert_ok (hP : tabOk Γ.P = true) (hM : MemOK Γ w0 S0 X w S σ ob) {own : Bool} {src dst : TypeId} {x : AV} {vx : Value} {K : AV → Objs → Option R} {r : R} (hx : RepA Γ.P w S σ ob x vx)
    (h : opConvert Γ.P own src dst x ob K = some r) : Out Γ w0 S0 X w S σ ob K r (convert src dst vx) := by
  unfold opConvert at h
  split at h
  · exact absurd h (by simp)
  · rename_i sd hsd
    have hu := (und_lt hsd).2
    have back : ∀ {e : TypeId} {xs : List D} (x : AV), ds Γ.P dst = .string → und Γ.P src = some (.slice e) → ds Γ.P e = .int .u8 → RepA Γ.P w S σ ob x vx → (∀ l, x = .s l → False) →
        elems Γ.P (underId Γ.P e) ob x = some xs → kBytes xs (fun l => K (.s l) ob) = some r → Out Γ w0 S0 X w S σ ob K r (convert src dst vx) := by
      intro e xs x hd hs he hx hns hel hk
      have he := ds_some he (by simp)
      have hd := (und_lt (ds_some hd (by simp))).2
      obtain ⟨news, hsrc, hfs⟩ := src_ok hP hM (tx := src) he (.inl ⟨_, (und_lt hs).2⟩) hel hx
      unfold kBytes at hk
      cases hb : unBytes xs with
      | none => simp [hb] at hk
      | some l =>
        rw [hb] at hk
        simp only at hk
        obtain ⟨ns, rfl, rfl⟩ := unBytes_spec hfs hb
        obtain ⟨a, n, c, rfl, hn⟩ : ∃ a n c, vx = .slice a n c ∧ n = xs.length := by
          cases x <;> simp only [elems] at hel
          case snil => cases hel; simp only [RepA] at hx; exact ⟨_, _, _, hx, rfl⟩
          case sl e' c xs =>
            obtain ⟨_, h2⟩ := cond_some hel
            cases h2; simp only [RepA] at hx; obtain ⟨b, cap, rfl, _⟩ := hx; exact ⟨_, _, _, rfl, rfl⟩
          case ref e' j =>
            obtain ⟨_, h2⟩ := cond_some hel
            split at h2
            · rename_i e1 xs fz hob
              cases h2
              simp only [RepA] at hx
              obtain ⟨_, b, m, cap, rfl, hq⟩ := hx
              obtain ⟨rfl, rfl, rfl, rfl⟩ := hq _ _ _ hob
              exact ⟨_, _, _, rfl, rfl⟩
            · exact absurd h2 (by simp)
          case s l => exact (hns l rfl).elim
          all_goals exact absurd hel (by simp)
        subst hn
        have hcells := hsrc.cells
        have hc1 := cells_int hP he
        refine out_same hM hk (cv := .string (ns.foldl (fun r n => r.push (UInt8.ofNat n.toNat)) ByteArray.empty)) ?_ (by
          simp only [RepA]; exact ⟨_, by rw [foldl_push]; rfl, rfl⟩)
        rw [run_convert_bytes_string w src dst e _ _ _ (und_lt hs).2 (und_lt he).2 hd]
        cases a with
        | none =>
          simp only [run_firstCells_none] at hcells
          have : ns = [] := by cases ns with | nil => rfl | cons a r => simp at hcells
          subst this
          rfl
        | some a =>
          simp only [Builtin.firstCells, hc1, Nat.mul_one] at hcells
          exact run_bytesToString w a _ _ ns hcells
    split at h
    · rename_i k k' n hd
      have hd := (und_lt (ds_some hd (by simp))).2
      simp only [RepA] at hx; subst hx
      refine out_same hM h (cv := .int k (k.wrap n)) ?_ repI
      cases sd <;> simp [convert, run_underlying hu, run_underlying hd, Conv.intToInt]
    · rename_i l hd
      have hd := (und_lt (ds_some hd (by simp))).2
      simp only [RepA] at hx; obtain ⟨s, rfl, rfl⟩ := hx
      refine out_same hM h (cv := .string s) ?_ repS
      cases sd <;> simp [convert, run_underlying hu, run_underlying hd]
    · rename_i e l hd
      have hd := (und_lt (ds_some hd (by simp))).2
      split at h
      · rename_i hde
        have he := ds_some hde (by simp)
        simp only [RepA] at hx; obtain ⟨s, rfl, rfl⟩ := hx
        have hrun : (convert src dst (.string s)).run Γ.P w = (Conv.stringToBytes e s).run Γ.P w := by
          cases sd <;> simp [convert, run_underlying hu, run_underlying hd, run_underlying (und_lt he).2]
        rw [toBytes_run] at hrun
        have hge := grownCap_ge w s.size 0 e
        have hlen : (bytesD s.data.toList).length = s.size := by rw [size_len]; simp [bytesD]
        have hfs := bytesD_fs (w := w) (S := S) he s.data.toList
        rcases cond_cases h with ⟨_, h⟩ | ⟨_, h⟩
        · obtain ⟨σ', t1, hr⟩ := newArr_ok (w' := { w.drew with heap := w.heap.push (.cells (bytesRow s (grownCap w s.size 0 e)) e ((bytesRow s (grownCap w s.size 0 e)).size, (bytesRow s (grownCap w s.size 0 e)).size + 1)) }) (cs := bytesRow s (grownCap w s.size 0 e)) (el := e) (fr := ((bytesRow s (grownCap w s.size 0 e)).size, (bytesRow s (grownCap w s.size 0 e)).size + 1)) hP hM false he rfl (cap := grownCap w s.size 0 e) (by
            unfold bytesRow
            rw [cells_int hP he, Array.size_append, Array.size_map, Array.size_replicate, Nat.mul_one]
            show s.size + _ = _
            omega) (by rw [hlen]; exact hge) hfs (by
              intro j v hj
              unfold bytesRow
              rw [Array.toList_append, List.getElem?_append_left (by simpa using getL hj)]
              simpa using hj) (by intro o ho hh; omega)
          rw [hlen] at hr
          exact ⟨_, _, h, _, _, S, σ', hrun, t1, hr⟩
        · obtain ⟨S', t1, hr⟩ := newData_ok (w' := { w.drew with heap := w.heap.push (.cells (bytesRow s (grownCap w s.size 0 e)) e ((bytesRow s (grownCap w s.size 0 e)).size, (bytesRow s (grownCap w s.size 0 e)).size + 1)) }) (cs := bytesRow s (grownCap w s.size 0 e)) (el := e) (fr := ((bytesRow s (grownCap w s.size 0 e)).size, (bytesRow s (grownCap w s.size 0 e)).size + 1)) hP hM he rfl (c := .any) (cap := grownCap w s.size 0 e) (by simp only [CapOK]; rw [hlen]; exact ⟨hge, fun hn => by simp at hn⟩) hfs (by
              intro j v hj
              unfold bytesRow
              rw [Array.toList_append, List.getElem?_append_left (by simpa using getL hj)]
              simpa using hj)
          rw [hlen] at hr
          exact ⟨_, _, h, _, _, S', σ, hrun, t1, hr⟩
      · exact absurd h (by simp)
    · rename_i hd
      split at h
      · rename_i e
        split at h
        · rename_i he
          exact back (xs := []) .snil hd hsd he hx (fun l e => by cases e) (by simp only [elems]) h
        · exact absurd h (by simp)
      · exact absurd h (by simp)
    · rename_i x' hd hns hnil
      split at h
      · rename_i e
        split at h
        · rename_i he
          split at h
          · rename_i xs hel
            exact back _ hd hsd he hx hns hel h
          · exact absurd h (by simp)
        · exact absurd h (by simp)
      · exact absurd h (by simp)
    · exact absurd h (by simp)
end
end Go.Proofs.Ytapaenfafjmljaa.V

/- Objects are moved: kept at a label, handed on in a call and handed back. -/
namespace Go.Proofs.Ytapaenfafjmljaa.V
open Go
set_option linter.unusedVariables false
set_option linter.unusedSimpArgs false

theorem memN_iff {j : Nat} : ∀ {l : List Nat}, memN j l = true ↔ j ∈ l
  | [] => by simp [memN]
  | a :: r => by
    simp only [memN, Bool.or_eq_true, List.mem_cons, memN_iff (l := r)]
    constructor
    · rintro (h | h)
      · exact .inl (beq_id h).symm
      · exact .inr h
    · rintro (h | h)
      · subst h; exact .inl (Nat.beq_refl _)
      · exact .inr h
theorem posN_lt {j : Nat} : ∀ {l : List Nat}, j ∈ l → posN j l < l.length ∧ l[posN j l]? = some j
  | [], h => by cases h
  | a :: r, h => by
    simp only [posN]
    cases hb : Nat.beq a j with
    | true => obtain rfl := beq_id hb; simp
    | false =>
      have hne : a ≠ j := fun e => by subst e; simp at hb
      have hr : j ∈ r := by rcases List.mem_cons.1 h with e | e; exact absurd e.symm hne; exact e
      obtain ⟨h1, h2⟩ := posN_lt hr
      simp only [cond_false, List.length_cons, List.getElem?_cons_succ]
      exact ⟨by omega, h2⟩
theorem nodupN_spec : ∀ {l : List Nat}, nodupN l = true → l.Nodup
  | [], _ => List.nodup_nil
  | a :: r, h => by
    simp only [nodupN, Bool.and_eq_true, Bool.not_eq_true'] at h
    exact List.nodup_cons.2 ⟨fun hm => by rw [memN_iff.2 hm] at h; simp at h, nodupN_spec h.2⟩
theorem allIn_spec {ord : List Nat} : ∀ {l : List Nat}, allIn ord l = true → ∀ j ∈ l, j ∈ ord
  | [], _, j, hj => by cases hj
  | a :: r, h, j, hj => by
    simp only [allIn, Bool.and_eq_true] at h
    rcases List.mem_cons.1 hj with e | e
    · subst e; exact memN_iff.1 h.1
    · exact allIn_spec h.2 j e
theorem allO_spec {ord : List Nat} {ob : Objs} : ∀ {l : List Nat}, allO ord ob l = true → ∀ i ∈ l, ∀ j ∈ idsO (ob.getD i none), j ∈ ord
  | [], _, j, hj => by cases hj
  | a :: r, h, i, hi => by
    simp only [allO, Bool.and_eq_true] at h
    rcases List.mem_cons.1 hi with e | e
    · subst e; exact allIn_spec h.1
    · exact allO_spec h.2 i e

section
variable {P : Program} {w : World} {S : Addr → Prop} {σ σ' : Loc} {ob ob' : Objs} {g : Nat → Nat}

/-- object j has gone to place g j -/
def Moved (σ : Loc) (ob : Objs) (σ' : Loc) (ob' : Objs) (g : Nat → Nat) (j : Nat) : Prop :=
  j < ob.length → g j < ob'.length ∧ σ' (g j) = σ j ∧ ob'[g j]? = some (renO g (ob.getD j none))
theorem fits_ren (t : TypeId) (a : AV) : fits P t (renA g a) = fits P t a := by
  cases a <;> simp only [renA] <;> unfold fits isTy <;> cases ds P t <;> rfl
def renB (g : Nat → Nat) : Obj → Obj
  | .box t v => .box t (renA g v)
  | .arr e xs fz => .arr e xs fz
theorem getD_of {j : Nat} {o : Option Obj} (hl : j < ob.length) (h : ob.getD j none = o) : ob[j]? = some o := by
  rw [List.getD_eq_getElem?_getD, List.getElem?_eq_getElem hl] at h
  rw [List.getElem?_eq_getElem hl]
  simpa using h
mutual
theorem RepA.ren : ∀ (a : AV) (v : Value), (∀ j ∈ idsA a, Moved σ ob σ' ob' g j) → RepA P w S σ ob a v → RepA P w S σ' ob' (renA g a) v
  | .undef, v, hm, h => by simp only [renA, RepA]
  | .i _ _, v, hm, h => by simpa only [renA, RepA] using h
  | .b _, v, hm, h => by simpa only [renA, RepA] using h
  | .s _, v, hm, h => by simpa only [renA, RepA] using h
  | .snil, v, hm, h => by simpa only [renA, RepA] using h
  | .sl e cp xs, v, hm, h => by simpa only [renA, RepA] using h
  | .d t x, v, hm, h => by simpa only [renA, RepA] using h
  | .vp t x, v, hm, h => by simpa only [renA, RepA] using h
  | .pnil, v, hm, h => by simpa only [renA, RepA] using h
  | .err _, v, hm, h => by simpa only [renA, RepA] using h
  | .ptr j p t, v, hm, h => by
    simp only [renA, RepA] at h ⊢
    obtain ⟨hl, b, off, hv, h⟩ := h
    obtain ⟨m1, m2, m3⟩ := hm j (by simp [idsA]) hl
    refine ⟨m1, b, off, hv, fun tj c hc => ?_⟩
    rw [m3] at hc
    cases ho : ob.getD j none with
    | none => rw [ho] at hc; simp [renO] at hc
    | some o =>
      rw [ho] at hc
      cases o with
      | box t0 c0 =>
        simp only [renO, Option.some.injEq, Obj.box.injEq] at hc
        obtain ⟨rfl, rfl⟩ := hc
        rw [m2]
        exact h t0 c0 (getD_of hl ho)
      | arr _ _ _ => simp [renO] at hc
  | .ref e j, v, hm, h => by
    simp only [renA, RepA] at h ⊢
    obtain ⟨hl, b, n, cap, hv, h⟩ := h
    obtain ⟨m1, m2, m3⟩ := hm j (by simp [idsA]) hl
    refine ⟨m1, b, n, cap, hv, fun e' xs fz hc => ?_⟩
    rw [m3] at hc
    cases ho : ob.getD j none with
    | none => rw [ho] at hc; simp [renO] at hc
    | some o =>
      rw [ho] at hc
      cases o with
      | box t0 c0 => simp [renO] at hc
      | arr e0 x0 f0 =>
        simp only [renO, Option.some.injEq, Obj.arr.injEq] at hc
        obtain ⟨rfl, rfl, rfl⟩ := hc
        rw [m2]
        exact h _ _ _ (getD_of hl ho)
  | .ap j i p t, v, hm, h => by
    simp only [renA, RepA] at h ⊢
    obtain ⟨hl, b, off, hv, h⟩ := h
    obtain ⟨m1, m2, m3⟩ := hm j (by simp [idsA]) hl
    refine ⟨m1, b, off, hv, fun e' xs fz hc => ?_⟩
    rw [m3] at hc
    cases ho : ob.getD j none with
    | none => rw [ho] at hc; simp [renO] at hc
    | some o =>
      rw [ho] at hc
      cases o with
      | box t0 c0 => simp [renO] at hc
      | arr e0 x0 f0 =>
        simp only [renO, Option.some.injEq, Obj.arr.injEq] at hc
        obtain ⟨rfl, rfl, rfl⟩ := hc
        rw [m2]
        exact h _ _ _ (getD_of hl ho)
  | .fn f caps, v, hm, h => by
    simp only [renA, RepA] at h ⊢
    obtain ⟨cs, h1, h2⟩ := h
    exact ⟨cs, h1, RepAs.ren caps cs (by simpa only [idsA] using hm) h2⟩
  | .agg t l, v, hm, h => by
    simp only [renA, RepA] at h ⊢
    obtain ⟨cs, flds, h1, h2, h3⟩ := h
    exact ⟨cs, flds, h1, h2, RepAg.ren l _ cs (by simpa only [idsA] using hm) h3⟩
  | .tuple l, v, hm, h => by
    simp only [renA, RepA] at h ⊢
    obtain ⟨cs, h1, h2⟩ := h
    exact ⟨cs, h1, RepAs.ren l cs (by simpa only [idsA] using hm) h2⟩
theorem RepAs.ren : ∀ (l : List AV) (vs : List Value), (∀ j ∈ idsL l, Moved σ ob σ' ob' g j) → RepAs P w S σ ob l vs → RepAs P w S σ' ob' (renL g l) vs
  | [], vs, hm, h => by simpa only [renL, RepAs] using h
  | a :: r, vs, hm, h => by
    simp only [renL, RepAs] at h ⊢
    simp only [idsL, List.mem_append] at hm
    obtain ⟨v, vs', h1, h2, h3⟩ := h
    exact ⟨v, vs', h1, RepA.ren a v (fun j hj => hm j (.inl hj)) h2, RepAs.ren r vs' (fun j hj => hm j (.inr hj)) h3⟩
theorem RepAg.ren : ∀ (l : List AV) (ts : List TypeId) (vs : List Value), (∀ j ∈ idsL l, Moved σ ob σ' ob' g j) → RepAg P w S σ ob l ts vs → RepAg P w S σ' ob' (renL g l) ts vs
  | [], ts, vs, hm, h => by simpa only [renL, RepAg] using h
  | a :: r, ts, vs, hm, h => by
    simp only [renL, RepAg] at h ⊢
    simp only [idsL, List.mem_append] at hm
    obtain ⟨t, ts', v, vs', h1, h2, h3, h4, h5, h6⟩ := h
    exact ⟨t, ts', v, vs', h1, h2, h3, by rw [fits_ren]; exact h4, RepA.ren a v (fun j hj => hm j (.inl hj)) h5, RepAg.ren r ts' vs' (fun j hj => hm j (.inr hj)) h6⟩
end
theorem ObjAt.ren {j : Nat} {o : Obj} (hj : σ' (g j) = σ j) (hm : ∀ i ∈ idsO (some o), Moved σ ob σ' ob' g i) (h : ObjAt P w S σ ob j o) : ObjAt P w S σ' ob' (g j) (renB g o) := by
  cases o with
  | box t v =>
    simp only [renB, ObjAt, hj] at h ⊢
    obtain ⟨vs, el, fr, h1, h2, h3, h4, ⟨h5, u, h6, h7⟩, h8, h9⟩ := h
    exact ⟨vs, el, fr, h1, h2, h3, h4, ⟨by rw [fits_ren]; exact h5, u, h6, RepA.ren v u (fun i hi => hm i (by simpa only [idsO] using hi)) h7⟩, h8, h9⟩
  | arr e xs fz =>
    simp only [renB, ObjAt, hj] at h ⊢
    exact h
theorem renO_some {g : Nat → Nat} {x : Option Obj} {o : Obj} (h : renO g x = some o) : ∃ o0, x = some o0 ∧ o = renB g o0 := by
  cases x with
  | none => simp [renO] at h
  | some o0 => cases o0 <;> (simp only [renO, Option.some.injEq] at h; exact ⟨_, rfl, by simp only [renB]; exact h.symm⟩)
theorem reach_pre {ob : Objs} : ∀ (n : Nat) (l acc : List Nat), ∃ r, reach ob n l acc = acc ++ r
  | 0, l, acc => ⟨[], by simp [reach]⟩
  | n + 1, [], acc => ⟨[], by simp [reach]⟩
  | n + 1, j :: r, acc => by
    simp only [reach]
    cases memN j acc with
    | true => exact reach_pre n r acc
    | false =>
      obtain ⟨x, hx⟩ := reach_pre (ob := ob) n (idsO (ob.getD j none) ++ r) (acc ++ [j])
      exact ⟨j :: x, by simp only [cond_false]; rw [hx]; simp⟩
theorem clsd_spec {ord ids : List Nat} (h : clsd ob ord ids = true) : ord.Nodup ∧ (∀ j ∈ ids, j ∈ ord) ∧ ∀ i ∈ ord, ∀ j ∈ idsO (ob.getD i none), j ∈ ord := by
  simp only [clsd, Bool.and_eq_true] at h
  exact ⟨nodupN_spec h.1.1, allIn_spec h.1.2, allO_spec h.2⟩

/-- objects in another order -/
theorem move_objs {ord : List Nat} (hnd : ord.Nodup) (hob : ∀ i ∈ ord, ∀ j ∈ idsO (ob.getD i none), j ∈ ord) (ho : ∀ j o, ob[j]? = some (some o) → ObjAt P w S σ ob j o)
    (ha : ∀ j j' o o', ob[j]? = some (some o) → ob[j']? = some (some o') → j ≠ j' → (σ j).1 ≠ (σ j').1) {g : Nat → Nat} (hg : g = fun j => posN j ord) {ob' : Objs} (hob' : ob' = ord.map fun j => renO g (ob.getD j none)) {σ' : Loc} (hσ' : σ' = fun k => σ (ord.getD k 0)) :
    (∀ j ∈ ord, Moved σ ob σ' ob' g j) ∧ (∀ k o', ob'[k]? = some (some o') → ∃ j o, ord[k]? = some j ∧ ob[j]? = some (some o) ∧ o' = renB g o ∧ σ' k = σ j) ∧ (∀ k o', ob'[k]? = some (some o') → ObjAt P w S σ' ob' k o') ∧
    ∀ j j' o o', ob'[j]? = some (some o) → ob'[j']? = some (some o') → j ≠ j' → (σ' j).1 ≠ (σ' j').1 := by
  subst hg
  have hmv : ∀ j ∈ ord, Moved σ ob σ' ob' (fun j => posN j ord) j := fun j hj hl => by
    obtain ⟨h1, h2⟩ := posN_lt hj
    refine ⟨by simpa [hob'] using h1, ?_, ?_⟩
    · simp only [hσ', List.getD_eq_getElem?_getD, h2, Option.getD_some]
    · simp only [hob', List.getElem?_map, h2, Option.map_some]
  have hget : ∀ (k : Nat) (o' : Obj), ob'[k]? = some (some o') → ∃ j o, ord[k]? = some j ∧ ob[j]? = some (some o) ∧ o' = renB (fun j => posN j ord) o ∧ σ' k = σ j := fun k o' hk => by
    simp only [hob', List.getElem?_map] at hk
    obtain ⟨j, hj, hk⟩ := Option.map_eq_some_iff.1 hk
    obtain ⟨o, ho, rfl⟩ := renO_some hk
    have hjl : j < ob.length := by
      rcases Nat.lt_or_ge j ob.length with hl | hl
      · exact hl
      · rw [List.getD_eq_getElem?_getD, List.getElem?_eq_none hl] at ho; simp at ho
    exact ⟨j, o, hj, getD_of hjl ho, rfl, by simp only [hσ', List.getD_eq_getElem?_getD, hj, Option.getD_some]⟩
  refine ⟨hmv, hget, ?_, ?_⟩
  · intro k o' hk
    obtain ⟨j, o, hj, hoj, rfl, hs⟩ := hget k o' hk
    have hjm := List.mem_of_getElem? hj
    have hpk : posN j ord = k := by
      obtain ⟨h1, h2⟩ := posN_lt hjm
      exact (List.getElem?_inj h1 hnd).1 (h2.trans hj.symm)
    have := (ho j o hoj).ren (σ' := σ') (ob' := ob') (g := fun j => posN j ord) (by simp only [hpk]; exact hs) (fun i hi => hmv i (hob j hjm i (by
      have : ob.getD j none = some o := by rw [List.getD_eq_getElem?_getD, hoj]; rfl
      rw [this]; exact hi)))
    simpa only [hpk] using this
  · intro k k' o1 o2 h1 h2 hne
    obtain ⟨j, o, hj, hoj, _, hs⟩ := hget k o1 h1
    obtain ⟨j', o', hj', hoj', _, hs'⟩ := hget k' o2 h2
    rw [hs, hs']
    refine ha j j' o o' hoj hoj' fun e => hne ?_
    subst e
    have hl : k < ord.length := (List.getElem?_eq_some_iff.1 hj).1
    exact (List.getElem?_inj hl hnd).1 (hj.trans hj'.symm)
end

section
variable {Γ : Ctx} {w0 : World} {S0 : Addr → Prop} {X : XB} {w w' : World} {S S' : Addr → Prop} {σ σ' : Loc} {ob ob' : Objs}

/-- the objects of a call: the callee's own blocks -/
def subX (σ : Loc) (ob : Objs) (ord rts : List Nat) : XB := ⟨rts.map σ, fun b => ∃ j o, j ∈ ord ∧ ob[j]? = some (some o) ∧ (σ j).1 = b⟩
/-- what a callee is handed -/
theorem sub_ok (hM : MemOK Γ w0 S0 X w S σ ob) {ord rts : List Nat} (hnd : ord.Nodup) (hob : ∀ i ∈ ord, ∀ j ∈ idsO (ob.getD i none), j ∈ ord) (hpre : ∃ r, ord = rts ++ r) :
    MemOK Γ w S (subX σ ob ord rts) w S (fun k => σ (ord.getD k 0)) (ord.map fun j => renO (fun j => posN j ord) (ob.getD j none)) ∧
    ∀ j ∈ ord, Moved σ ob (fun k => σ (ord.getD k 0)) (ord.map fun j => renO (fun j => posN j ord) (ob.getD j none)) (fun j => posN j ord) j := by
  obtain ⟨h1, h2, h3, h4⟩ := move_objs hnd hob hM.objs hM.apart rfl rfl rfl
  refine ⟨{ objs := h3, apart := h4, own := ?_, old := fun _ _ _ => rfl, grow := Nat.le_refl _, s0 := fun _ h => h, snew := fun _ h => .inl h, sin := hM.sin, glob := hM.glob, env := ⟨rfl, rfl⟩, kept := Keeps.refl w S, root := ?_ }, h1⟩
  · intro k o' hk
    obtain ⟨j, o, hj, hoj, _, hs⟩ := h2 k o' hk
    rw [hs]
    exact ⟨.inl ⟨j, o, List.mem_of_getElem? hj, hoj, rfl⟩, (hM.own j o hoj).2⟩
  · intro k p hk
    obtain ⟨r, rfl⟩ := hpre
    simp only [subX, List.getElem?_map] at hk
    obtain ⟨j, hj, rfl⟩ := Option.map_eq_some_iff.1 hk
    have hl : k < rts.length := (List.getElem?_eq_some_iff.1 hj).1
    refine ⟨by simp; omega, ?_⟩
    rw [List.getD_eq_getElem?_getD, List.getElem?_append_left hl, hj]; rfl

theorem kill_len (ob : Objs) : ∀ l : List Nat, (killAll ob l).length = ob.length
  | [] => rfl
  | j :: r => by simp [killAll, kill_len ob r]
theorem kill_get {ob : Objs} {j : Nat} : ∀ {l : List Nat}, j ∉ l → (killAll ob l)[j]? = ob[j]?
  | [], _ => rfl
  | a :: r, h => by
    simp only [List.mem_cons, not_or] at h
    simp only [killAll]
    rw [List.getElem?_set_ne (fun e => h.1 e.symm), kill_get h.2]
theorem kill_in {ob : Objs} {j : Nat} (hj : j < ob.length) : ∀ {l : List Nat}, j ∈ l → (killAll ob l)[j]? = some none
  | a :: r, h => by
    simp only [killAll]
    by_cases e : a = j
    · subst e; rw [List.getElem?_set_self (by rw [kill_len]; exact hj)]
    · rw [List.getElem?_set_ne e]
      exact kill_in hj (by rcases List.mem_cons.1 h with h | h; exact absurd h.symm e; exact h)
theorem put_len (g : Nat → Nat) : ∀ (ob : Objs) (l : List Nat) (os : Objs), (putRoots g ob l os).length = ob.length
  | ob, [], os => by simp [putRoots]
  | ob, j :: r, [] => by simp [putRoots]
  | ob, j :: r, o :: os => by simp [putRoots, put_len g _ r os]
theorem put_get {g : Nat → Nat} {j : Nat} : ∀ {ob : Objs} {l : List Nat} {os : Objs}, j ∉ l → (putRoots g ob l os)[j]? = ob[j]?
  | ob, [], os, _ => by simp [putRoots]
  | ob, a :: r, [], _ => by simp [putRoots]
  | ob, a :: r, o :: os, h => by
    simp only [List.mem_cons, not_or] at h
    simp only [putRoots]
    rw [put_get h.2, List.getElem?_set_ne (fun e => h.1 e.symm)]
theorem put_in {g : Nat → Nat} {j : Nat} {o : Option Obj} : ∀ {ob : Objs} {l : List Nat} {os : Objs} {i : Nat}, l.Nodup → l[i]? = some j → os[i]? = some o → j < ob.length → (putRoots g ob l os)[j]? = some (renO g o)
  | ob, [], os, i, _, h, _, _ => by simp at h
  | ob, a :: r, [], i, _, _, h, _ => by simp at h
  | ob, a :: r, x :: os, 0, hn, h1, h2, hl => by
    simp only [List.getElem?_cons_zero, Option.some.injEq] at h1 h2
    subst h1; subst h2
    simp only [putRoots]
    rw [put_get (List.nodup_cons.1 hn).1, List.getElem?_set_self hl]
  | ob, a :: r, x :: os, i + 1, hn, h1, h2, hl => by
    simp only [List.getElem?_cons_succ] at h1 h2
    simp only [putRoots]
    exact put_in (List.nodup_cons.1 hn).2 h1 h2 (by simpa using hl)
/-- objects of one kind and length -/
def SameKind : Obj → Obj → Prop
  | .box t _, .box t' _ => t = t'
  | .arr e xs _, .arr e' xs' _ => e = e' ∧ xs.length = xs'.length
  | _, _ => False
theorem SameKind.ren (g : Nat → Nat) {o o' : Obj} (h : SameKind o o') : SameKind o (renB g o') := by
  cases o <;> cases o' <;> exact h
theorem sameObj_spec {x : Option (Option Obj)} {o' : Obj} (h : sameObj x o' = true) : ∃ o, x = some (some o) ∧ SameKind o o' := by
  unfold sameObj at h
  split at h
  · exact ⟨_, rfl, beq_id h⟩
  · simp only [Bool.and_eq_true] at h
    exact ⟨_, rfl, beq_id h.1, beq_id h.2⟩
  · exact absurd h (by simp)
theorem same_spec {ob : Objs} : ∀ {l : List Nat} {os : Objs}, sameBoxes ob l os = true → l.length ≤ os.length ∧ ∀ (i j : Nat), l[i]? = some j → ∃ o o', ob[j]? = some (some o) ∧ os[i]? = some (some o') ∧ SameKind o o'
  | [], os, _ => ⟨by simp, fun i j h => by simp at h⟩
  | a :: r, [], h => by simp [sameBoxes] at h
  | a :: r, none :: os, h => by simp [sameBoxes] at h
  | a :: r, some o' :: os, h => by
    simp only [sameBoxes, Bool.and_eq_true] at h
    obtain ⟨g1, g2⟩ := same_spec h.2
    refine ⟨by simp; omega, fun i j hi => ?_⟩
    cases i with
    | zero =>
      simp only [List.getElem?_cons_zero, Option.some.injEq] at hi
      subst hi
      obtain ⟨o, h1, h2⟩ := sameObj_spec h.1
      exact ⟨o, o', h1, rfl, h2⟩
    | succ i => simpa using g2 i j (by simpa using hi)

/-- what a callee hands back -/
theorem back_ok (hM : MemOK Γ w0 S0 X w S σ ob) {ord rts : List Nat} (hnd : ord.Nodup) (hpre : ∃ r, ord = rts ++ r) {obs : Objs} {σ2 : Loc} (hM2 : MemOK Γ w S (subX σ ob ord rts) w' S' σ2 obs) (hk : Keeps w S w' S')
    (hsame : sameBoxes ob rts obs = true) :
    ∃ σ'', Trans Γ w0 S0 X w S σ ob w' S' σ'' (putRoots (backN rts ob.length) (killAll ob ord) rts obs ++ (obs.drop rts.length).map (renO (backN rts ob.length))) ∧
      ∀ a v, RepA Γ.P w' S' σ2 obs a v → RepA Γ.P w' S' σ'' (putRoots (backN rts ob.length) (killAll ob ord) rts obs ++ (obs.drop rts.length).map (renO (backN rts ob.length))) (renA (backN rts ob.length) a) v := by
  obtain ⟨hle, hbox⟩ := same_spec hsame
  generalize hg : backN rts ob.length = g
  generalize hob2 : putRoots g (killAll ob ord) rts obs ++ (obs.drop rts.length).map (renO g) = ob2
  let σ'' : Loc := fun j => if j < ob.length then σ j else σ2 (rts.length + (j - ob.length))
  have hrin : ∀ j ∈ rts, j ∈ ord := fun j hj => by obtain ⟨r, rfl⟩ := hpre; simp [hj]
  have hrnd : rts.Nodup := by obtain ⟨r, rfl⟩ := hpre; exact (List.nodup_append.1 hnd).1
  have hlen1 : (putRoots g (killAll ob ord) rts obs).length = ob.length := by rw [put_len, kill_len]
  have hlen2 : ob2.length = ob.length + (obs.length - rts.length) := by rw [← hob2]; simp [hlen1]
  have hrl : ∀ i j, rts[i]? = some j → j < ob.length := fun i j h => by obtain ⟨o, o', h1, _⟩ := hbox i j h; exact lt_of_get h1
  have gr : ∀ i j, rts[i]? = some j → g i = j := fun i j h => by rw [← hg]; simp only [backN, h]
  have gn : ∀ i, rts.length ≤ i → g i = ob.length + (i - rts.length) := fun i h => by rw [← hg]; simp only [backN, List.getElem?_eq_none h]
  have hold : ∀ j, j < ob.length → σ'' j = σ j := fun j h => by simp only [σ'', if_pos h]
  -- places
  have pNot : ∀ j, j < ob.length → j ∉ ord → ob2[j]? = ob[j]? := fun j hl hj => by
    rw [← hob2, List.getElem?_append_left (by rw [hlen1]; exact hl), put_get (fun h => hj (hrin j h)), kill_get hj]
  have pKill : ∀ j, j < ob.length → j ∈ ord → j ∉ rts → ob2[j]? = some none := fun j hl hj hr => by
    rw [← hob2, List.getElem?_append_left (by rw [hlen1]; exact hl), put_get hr, kill_in hl hj]
  have pNew : ∀ i, i < obs.length → g i < ob2.length ∧ ob2[g i]? = some (renO g (obs.getD i none)) := fun i hi => by
    have hgd : obs[i]? = some (obs.getD i none) := by rw [List.getD_eq_getElem?_getD, List.getElem?_eq_getElem hi]; rfl
    rcases Nat.lt_or_ge i rts.length with hr | hr
    · obtain ⟨j, hj⟩ : ∃ j, rts[i]? = some j := ⟨_, List.getElem?_eq_getElem hr⟩
      have hjl := hrl i j hj
      rw [gr i j hj]
      refine ⟨by omega, ?_⟩
      rw [← hob2, List.getElem?_append_left (by rw [hlen1]; exact hjl)]
      exact put_in hrnd hj hgd (by rw [kill_len]; exact hjl)
    · rw [gn i hr]
      refine ⟨by omega, ?_⟩
      rw [← hob2, List.getElem?_append_right (by rw [hlen1]; omega), hlen1, List.getElem?_map, List.getElem?_drop]
      rw [show rts.length + (ob.length + (i - rts.length) - ob.length) = i by omega, hgd]; rfl
  have hmv : ∀ i, Moved σ2 obs σ'' ob2 g i := fun i hi => by
    obtain ⟨h1, h2⟩ := pNew i hi
    refine ⟨h1, ?_, h2⟩
    rcases Nat.lt_or_ge i rts.length with hr | hr
    · obtain ⟨j, hj⟩ : ∃ j, rts[i]? = some j := ⟨_, List.getElem?_eq_getElem hr⟩
      rw [gr i j hj, hold j (hrl i j hj)]
      exact (hM2.root i (σ j) (by simp only [subX, List.getElem?_map, hj]; rfl)).2.symm
    · rw [gn i hr]
      simp only [σ'']
      rw [if_neg (by omega), show rts.length + (ob.length + (i - rts.length) - ob.length) = i by omega]
  have st : Stays σ ob σ'' ob2 := by
    refine ⟨by omega, fun j hj o' ho => ?_⟩
    by_cases hin : j ∈ ord
    · by_cases hr : j ∈ rts
      · obtain ⟨i, hi⟩ := List.mem_iff_getElem?.1 hr
        obtain ⟨o1, o2, h1, h2, h3⟩ := hbox i j hi
        have hil : i < obs.length := (List.getElem?_eq_some_iff.1 h2).1
        have := (pNew i hil).2
        rw [gr i j hi, ho, List.getD_eq_getElem?_getD, h2] at this
        simp only [Option.getD_some, Option.some.injEq] at this
        obtain ⟨o3, h4, h5⟩ := renO_some this.symm
        cases h4
        subst h5
        refine ⟨_, h1, hold j hj, ?_⟩
        have h6 := h3.ren g
        cases o1 <;> cases o2 <;> exact h6
      · rw [pKill j hj hin hr] at ho; simp at ho
    · rw [pNot j hj hin] at ho
      exact ⟨o', ho, hold j hj, by cases o' <;> simp⟩
  -- which object it is
  have which : ∀ j o, ob2[j]? = some (some o) → (j < ob.length ∧ j ∉ ord ∧ ob[j]? = some (some o)) ∨ ∃ i o0, j = g i ∧ obs[i]? = some (some o0) ∧ o = renB g o0 ∧ σ'' j = σ2 i := fun j o ho => by
    have aux : ∀ i, i < obs.length → j = g i → ∃ i o0, j = g i ∧ obs[i]? = some (some o0) ∧ o = renB g o0 ∧ σ'' j = σ2 i := fun i hi hj => by
      have h1 := hmv i hi
      rw [← hj, ho] at h1
      obtain ⟨_, hs, h2⟩ := h1
      obtain ⟨o0, h3, h4⟩ := renO_some (Option.some.inj h2).symm
      exact ⟨i, o0, hj, getD_of hi h3, h4, hs⟩
    rcases Nat.lt_or_ge j ob.length with hl | hl
    · by_cases hin : j ∈ ord
      · by_cases hr : j ∈ rts
        · obtain ⟨i, hi⟩ := List.mem_iff_getElem?.1 hr
          obtain ⟨o1, o2, h1, h2, h3⟩ := hbox i j hi
          exact .inr (aux i (List.getElem?_eq_some_iff.1 h2).1 (gr i j hi).symm)
        · rw [pKill j hl hin hr] at ho; simp at ho
      · exact .inl ⟨hl, hin, by rw [← pNot j hl hin]; exact ho⟩
    · have hj2 := lt_of_get ho
      exact .inr (aux (rts.length + (j - ob.length)) (by omega) (by rw [gn _ (by omega)]; omega))
  have hrep : ∀ a v, RepA Γ.P w S σ ob a v → RepA Γ.P w' S' σ'' ob2 a v := fun a v r => RepA.keep hk st a v r
  have hown2 : ∀ b, (subX σ ob ord rts) b → (X b ∨ w0.heap.size ≤ b) ∧ b < w.heap.size := fun b hb => by
    obtain ⟨j, o, _, h1, rfl⟩ := hb
    exact hM.own j o h1
  have hapart2 : ∀ j o, j ∉ ord → ob[j]? = some (some o) → ¬ (subX σ ob ord rts) (σ j).1 := fun j o hj ho hb => by
    obtain ⟨j', o', h1, h2, h3⟩ := hb
    exact hM.apart j' j o' o h2 ho (fun e => hj (e ▸ h1)) h3
  refine ⟨σ'', ⟨?_, hrep, hk⟩, fun a v r => RepA.ren a v (fun i _ => hmv i) r⟩
  refine { objs := ?_, apart := ?_, own := ?_, old := ?_, grow := Nat.le_trans hM.grow hM2.grow, s0 := fun a ha => hM2.s0 a (hM.s0 a ha), snew := ?_, sin := hM2.sin, glob := hM2.glob, env := ⟨hM2.env.1.trans hM.env.1, hM2.env.2.trans hM.env.2⟩, kept := hM.kept.trans hk, root := ?_ }
  · intro j o ho
    rcases which j o ho with ⟨hl, hin, h1⟩ | ⟨i, o0, rfl, h1, rfl, hs⟩
    · have hx := hapart2 j o hin h1
      refine (hM.objs j o h1).keep hk st (hold j hl) (hM2.old _ (hM.own j o h1).2 hx) fun x hx' hb => ?_
      rcases hM2.snew x hx' with h | h | h
      · exact h
      · rw [hb] at h; exact absurd h hx
      · have := (hM.own j o h1).2; omega
    · exact (hM2.objs i o0 h1).ren hs (fun i _ => hmv i)
  · intro j j' o o' h h' hne
    rcases which j o h with ⟨hl, hin, h1⟩ | ⟨i, o0, hj, h1, _, hs⟩ <;> rcases which j' o' h' with ⟨hl', hin', h1'⟩ | ⟨i', o0', hj', h1', _, hs'⟩
    · rw [hold j hl, hold j' hl']; exact hM.apart j j' o o' h1 h1' hne
    · rw [hold j hl, hs']
      intro e
      rcases (hM2.own i' o0' h1').1 with hx | hx
      · rw [← e] at hx; exact hapart2 j o hin h1 hx
      · have := (hM.own j o h1).2; omega
    · rw [hold j' hl', hs]
      intro e
      rcases (hM2.own i o0 h1).1 with hx | hx
      · rw [e] at hx; exact hapart2 j' o' hin' h1' hx
      · have := (hM.own j' o' h1').2; omega
    · rw [hs, hs']
      exact hM2.apart i i' o0 o0' h1 h1' fun e => hne (by rw [hj, hj', e])
  · intro j o ho
    rcases which j o ho with ⟨hl, hin, h1⟩ | ⟨i, o0, _, h1, _, hs⟩
    · rw [hold j hl]
      have := hM.own j o h1
      exact ⟨this.1, Nat.lt_of_lt_of_le this.2 hM2.grow⟩
    · rw [hs]
      have := hM2.own i o0 h1
      refine ⟨?_, this.2⟩
      rcases this.1 with hx | hx
      · exact (hown2 _ hx).1
      · exact .inr (Nat.le_trans hM.grow hx)
  · intro b hb hX
    rw [hM2.old b (Nat.lt_of_lt_of_le hb hM.grow) (fun hx => by
      rcases (hown2 b hx).1 with h | h
      · exact hX h
      · omega), hM.old b hb hX]
  · intro a ha
    rcases hM2.snew a ha with h | h | h
    · exact hM.snew a h
    · exact .inr (hown2 _ h).1
    · exact .inr (.inr (Nat.le_trans hM.grow h))
  · intro k p hkp
    obtain ⟨h1, h2⟩ := hM.root k p hkp
    exact ⟨by omega, by rw [hold k h1]; exact h2⟩
end
end Go.Proofs.Ytapaenfafjmljaa.V

/- Operations. Addresses: the very same one; made unsafe and back; the text that lies in a row. -/
namespace Go.Proofs.Ytapaenfafjmljaa.V
open Go
set_option linter.unusedVariables false
set_option linter.unusedSimpArgs false

section
variable {P : Program} {Γ : Ctx} {w0 : World} {S0 : Addr → Prop} {X : XB} {w w' : World} {S S' : Addr → Prop} {σ σ' : Loc} {ob ob' : Objs} {R : Type}

theorem eqP_spec : ∀ {p q : List Nat}, eqP p q = true → p = q
  | [], [], _ => rfl
  | a :: r, b :: s, h => by
    simp only [eqP, Bool.and_eq_true] at h
    rw [beq_id h.1, eqP_spec h.2]
  | [], _ :: _, h => by simp [eqP] at h
  | _ :: _, [], h => by simp [eqP] at h
theorem info_some {P : Program} {t : TypeId} (h : (P.info? t).isSome = true) : ∃ j, P.info? t = some j := Option.isSome_iff_exists.1 h
theorem run_eq_ptr_same {P : Program} (w : World) {tp te : TypeId} {j : TypeInfo} (a : Addr) (hp : P.underlying tp = some (.pointer te)) (hte : P.info? te = some j) :
    (binOp .eql tp (.pointer (some a)) (.pointer (some a))).run P w = .ok (.bool true) w := by
  have h : ∀ d : Nat, (Op.equalIn (d + 1) tp (.pointer (some a)) (.pointer (some a))).run P w = .ok true w := fun d => by
    simp [Op.equalIn, run_underlying hp, sizeOf, typeInfo, hte, run_sameAddr_same]
  simp only [binOp]
  simp [Op.equal, Op.maxDepth, h 9999]
theorem ptrEq_ok {op : BinOp} {t : TypeId} {x y : AV} {v u : Value} {K : AV → Option R} {r : R} (h : opPtrEq Γ.P op t x y ob K = some r) (h1 : RepA Γ.P w S σ ob x v) (h2 : RepA Γ.P w S σ ob y u) :
    ∃ av, K av = some r ∧ BinGood Γ.P w S σ ob op t v u av := by
  unfold opPtrEq at h
  split at h
  · rename_i j p t1 j' p' t2
    split at h
    · rename_i tb c e hob hd
      obtain ⟨hc, h9⟩ := cond_some h
      clear h
      simp only [Bool.and_eq_true] at hc
      obtain rfl := beq_id hc.1.1
      obtain rfl := eqP_spec hc.1.2
      obtain ⟨ji, hj⟩ := info_some hc.2
      simp only [RepA] at h1 h2
      obtain ⟨_, b, off, rfl, h1⟩ := h1
      obtain ⟨_, b', off', rfl, h2⟩ := h2
      obtain ⟨rfl, g1⟩ := h1 _ _ hob
      obtain ⟨rfl, g2⟩ := h2 _ _ hob
      rw [g1] at g2
      cases g2
      have hu := (und_lt (ds_some hd (by simp))).2
      split at h9
      · exact ⟨_, h9, .bool true, by simp only [RepA], fun xo yo => by
          simp only [Sem.run_bind, eqGuard]
          simp [run_eq_ptr_same w _ hu hj]⟩
      · exact ⟨_, h9, .bool false, by simp only [RepA], fun xo yo => by
          simp only [Sem.run_bind, eqGuard]
          simp [Lib.run_neq_ptr_same w _ hu hj]⟩
      · exact absurd h9 (by simp)
    · exact absurd h (by simp)
  · exact absurd h (by simp)

theorem lies_under {P : Program} {el u : TypeId} {count n : Nat} (hs : underId P el = underId P u) (hc : P.cellsOf el ≠ 0) (hn : n ≤ count) : liesAt P P.depth el count 0 u n = true := by
  have hd : P.depth = (2 * (P.types.size + Made.depth) + 1) + 1 := rfl
  have hs' : P.underlyingId el = P.underlyingId u := hs
  rw [hd]
  simp only [liesAt, Bool.or_eq_true]
  left
  rw [hd]
  simp [rowAt, hc, hn, sameLayout, hs']
theorem size_spec {P : Program} {t : TypeId} (h : sizeB P t = true) : ∃ j, P.info? t = some j ∧ j.size ≠ 0 := by
  unfold sizeB at h
  split at h
  · rename_i j hj
    simp only [Bool.not_eq_true'] at h
    exact ⟨j, hj, fun e => by rw [e] at h; simp at h⟩
  · simp at h
theorem ptrConv_ok (hP : tabOk Γ.P = true) (hM : MemOK Γ w0 S0 X w S σ ob) {src dst : TypeId} {x : AV} {vx : Value} {K : AV → Option R} {r : R} (hx : RepA Γ.P w S σ ob x vx) (h : opPtrConv Γ.P src dst x ob K = some r) :
    ∃ av, K av = some r ∧ ∃ cv, RepA Γ.P w S σ ob av cv ∧ (convert src dst vx).run Γ.P w = .ok cv w := by
  unfold opPtrConv at h
  split at h
  · rename_i j u
    split at h
    · rename_i tb c hob
      have hx' := hx
      simp only [RepA] at hx
      obtain ⟨_, b, off, rfl, hx⟩ := hx
      obtain ⟨rfl, ho⟩ := hx _ _ hob
      simp only [offP] at ho
      obtain ⟨_, _, ho⟩ := Option.map_eq_some_iff.1 ho
      cases ho
      have hO := hM.objs j _ hob
      simp only [ObjAt] at hO
      obtain ⟨vs, el, fr, hb, _, ⟨ht, hel, hce⟩, hl, _, _, _⟩ := hO
      have hsh : w.shape? (σ j).1 = some (el, vs.length) := by unfold World.shape?; rw [hb]; simp
      split at h
      · rename_i t hs hd
        obtain ⟨hc, h9⟩ := cond_some h
        clear h
        simp only [Bool.and_eq_true] at hc
        obtain ⟨ji, hj, hj0⟩ := size_spec hc.2
        have h0 : 0 < Γ.P.cellsOf tb := by simpa [Nat.blt_eq] using hc.1.2
        have hd := (und_lt (ds_some hd (by simp))).2
        exact ⟨_, h9, _, hx', Lib.run_to_unsafe w ⟨(σ j).1, 0, none⟩ (und_lt hs).2 hd hj hj0 hsh (by show 0 < vs.length; rw [hl]; exact h0)⟩
      · rename_i t hs hd
        obtain ⟨hc, h9⟩ := cond_some h
        clear h
        simp only [Bool.and_eq_true] at hc
        have htb := beq_id hc.1.1
        obtain ⟨ji, hj, hj0⟩ := size_spec hc.2
        have h0 : 0 < Γ.P.cellsOf tb := by simpa [Nat.blt_eq] using hc.1.2
        have hd := (und_lt (ds_some hd (by simp))).2
        refine ⟨_, h9, _, hx', Lib.run_from_unsafe w ⟨(σ j).1, 0, none⟩ (und_lt hs).2 hd hj hsh (lies_under (hel.trans htb) (by omega) ?_)⟩
        rw [hl, ← hce]
        exact Nat.le_of_eq (Nat.div_self (by omega)).symm
      · exact absurd h (by simp)
    · exact absurd h (by simp)
  · exact absurd h (by simp)

theorem ap_of_ref (hM : MemOK Γ w0 S0 X w S σ ob) {e e' : TypeId} {j : Nat} {xs : List D} {fz : Bool} {v : Value} (hob : ob[j]? = some (some (.arr e' xs fz))) (h : RepA Γ.P w S σ ob (.ref e j) v) :
    ∃ cap, v = .slice (some ⟨(σ j).1, 0, none⟩) xs.length cap ∧ xs.length ≤ cap ∧ e' = e ∧ RepA Γ.P w S σ ob (.ap j 0 [] (underId Γ.P e)) (.pointer (some ⟨(σ j).1, 0, none⟩)) := by
  simp only [RepA] at h ⊢
  obtain ⟨hl, b, n, cap, rfl, ha⟩ := h
  obtain ⟨rfl, rfl, rfl, rfl⟩ := ha _ _ _ hob
  have hO := hM.objs j _ hob
  simp only [ObjAt] at hO
  obtain ⟨cs, el, fr, hb, hnf, hcs, hle, hrow, ⟨⟨dd, hdd⟩, hel, hce⟩, hS⟩ := hO
  refine ⟨_, rfl, hle, rfl, hl, _, _, rfl, fun e2 xs2 fz2 h2 => ?_⟩
  rw [hob] at h2
  cases h2
  exact ⟨rfl, 0, by simp [offP, hdd], by simp⟩

theorem freeze_heap (a : Addr) (n b : Nat) (hb : b ≠ a.block) : (w.freeze a n).heap[b]? = w.heap[b]? := by
  unfold World.freeze
  split
  · rfl
  · simp only [Array.getElem?_modify]
    rw [if_neg (fun e => hb e.symm)]
theorem freeze_size (a : Addr) (n : Nat) : (w.freeze a n).heap.size = w.heap.size := by
  unfold World.freeze
  split
  · rfl
  · simp
theorem freeze_whole (a : Addr) (n : Nat) {b k : Nat} (h : Whole w b k) : Whole (w.freeze a n) b k := by
  obtain ⟨cs, el, fr, h1, h2⟩ := h
  by_cases hb : b = a.block
  · subst hb
    unfold World.freeze
    split
    · exact ⟨cs, el, fr, h1, h2⟩
    · obtain ⟨lo, hi⟩ := fr
      exact ⟨cs, el, _, by simp only [Array.getElem?_modify, if_true, h1]; rfl, h2⟩
  · exact ⟨cs, el, fr, (freeze_heap a n b hb).trans h1, h2⟩
theorem freeze_env (a : Addr) (n : Nat) : (w.freeze a n).os = w.os ∧ (w.freeze a n).output = w.output := by
  unfold World.freeze
  split <;> exact ⟨rfl, rfl⟩
theorem freeze_cell (a : Addr) (n : Nat) (x : Addr) : (w.freeze a n).cell? x = w.cell? x := by
  unfold World.freeze
  split
  · rfl
  · unfold World.cell?
    simp only [Array.getElem?_modify]
    by_cases hb : a.block = x.block
    · rw [if_pos hb]
      cases w.heap[x.block]? with
      | none => rfl
      | some o => cases o <;> rfl
    · rw [if_neg hb]
theorem run_loadInts : ∀ (l : List Int) (a : Addr) (acc : ByteArray), (∀ j n, l[j]? = some n → w.cell? (a.add j) = some (.int .u8 n)) →
    (loadBytes a acc l.length).run P w = .ok ⟨acc.data ++ (l.map fun n => UInt8.ofNat n.toNat).toArray⟩ w
  | [], a, acc, _ => by simp [loadBytes]
  | n :: l, a, acc, h => by
    have h0 : w.cell? a = some (.int .u8 n) := by
      have := h 0 n rfl
      simpa [Addr.add] using this
    have ih := run_loadInts l (a.add 1) (acc.push (UInt8.ofNat n.toNat)) (fun j y hy => by
      have := h (j + 1) y (by simpa using hy)
      have e : (a.add 1).add j = a.add (j + 1) := by
        unfold Addr.add
        by_cases hj : j = 0
        · subst hj; simp
        · simp [hj]; omega
      rw [e]; exact this)
    have hx : n.toNat.toUInt8 = UInt8.ofNat n.toNat := rfl
    simp only [List.length_cons, loadBytes, Sem.run_bind, run_load, h0, Result.andThen, hx]
    rw [ih]
    congr 1
    apply ByteArray.ext
    simp [ByteArray.push]
/-- unsafe.String over the head of a row of bytes -/
theorem run_unsafeStr (pt it ty e el : TypeId) (hp : P.underlying pt = some (.pointer e)) (g cells : Nat) (hsh : w.shape? g = some (el, cells)) (l : List Int) (h0 : l ≠ []) (hlies : liesAt P P.depth el (cells / P.cellsOf el) 0 e l.length = true) (h63 : l.length ≤ 9223372036854775807)
    (hcell : ∀ j x, l[j]? = some x → w.cell? ((⟨g, 0, none⟩ : Addr).add j) = some (.int .u8 x)) :
    (Builtin.unsafeString_ #[pt, it] ty #[.pointer (some ⟨g, 0, none⟩), .int .i64 l.length]).run P w = .ok (.string ⟨(l.map fun n => UInt8.ofNat n.toNat).toArray⟩) (w.freeze ⟨g, 0, none⟩ l.length) := by
  have hl : l.length ≠ 0 := by simpa using h0
  have hlb := run_loadInts (P := P) (w := w) l ⟨g, 0, none⟩ .empty hcell
  have h63' : ¬ (9223372036854775807 : Int) < (l.length : Int) := by omega
  change Sem.run P (bind (asInt (.int .i64 l.length)) _) w = _
  have hmax : IntKind.i64.max = 9223372036854775807 := rfl
  have hneg : ¬ (l.length : Int) < 0 := by omega
  simp [asInt, asIntOf, hmax, h63', hneg, hl, variablesAt, hsh, elemOf, run_underlying hp, hlies, hlb]
theorem onNil_ne {α : Type} {l : List α} {B : Option R} {r : R} (h : onNil l none B = some r) : l ≠ [] ∧ B = some r := by
  cases l with
  | nil => simp [onNil] at h
  | cons a l => exact ⟨by simp, h⟩
theorem sliceData_ok (hM : MemOK Γ w0 S0 X w S σ ob) {ts : List TypeId} {x : AV} {v : Value} {ty : TypeId} {K : AV → Objs → Option R} {r : R} (hx : RepA Γ.P w S σ ob x v) (h : opBuiltin Γ.P .unsafeSliceData ts [x] ob K = some r) :
    Out Γ w0 S0 X w S σ ob K r (Builtin.unsafeSliceData_ ts.toArray ty #[v]) := by
  simp only [opBuiltin] at h
  split at h
  · rename_i e j
    split at h
    · rename_i e' xs fz hob
      obtain ⟨hne, h9⟩ := onNil_ne h
      obtain ⟨cap, rfl, hle, rfl, hr⟩ := ap_of_ref hM hob hx
      have : 0 < xs.length := by cases xs with | nil => exact absurd rfl hne | cons _ _ => simp
      exact out_same hM h9 (Lib.run_unsafeSliceData_row w _ _ _ _ _ (by omega)) hr
    · exact absurd h (by simp)
  · simp only [RepA] at hx; subst hx
    exact out_same hM h (Lib.run_unsafeSliceData_nil w _ _ _ _) (by simp only [RepA])
  · simp only [RepA] at hx
    obtain ⟨a, cap, rfl, hc, _⟩ := hx
    simp only [CapOK] at hc
    obtain ⟨rfl, _, _⟩ := hc
    exact out_same hM h (Lib.run_unsafeSliceData_nil w _ _ _ _) (by simp only [RepA])
  · exact absurd h (by simp)
theorem uString_ok (hP : tabOk Γ.P = true) (hM : MemOK Γ w0 S0 X w S σ ob) {pt it : TypeId} {p : AV} {n : Int} {v : Value} {ty : TypeId} {K : AV → Objs → Option R} {r : R} (hx : RepA Γ.P w S σ ob p v) (h : opBuiltin Γ.P .unsafeString [pt, it] [p, .i .i64 n] ob K = some r) :
    Out Γ w0 S0 X w S σ ob K r (Builtin.unsafeString_ #[pt, it] ty #[v, .int .i64 n]) := by
  simp only [opBuiltin] at h
  split at h
  · obtain ⟨hn, h9⟩ := cond_some h
    have hn : n = 0 := by simpa using hn
    subst hn
    simp only [RepA] at hx; subst hx
    exact out_same hM h9 (Lib.run_unsafeString_none w _ _ _ _) (by simp only [RepA]; exact ⟨_, rfl, rfl⟩)
  · rename_i j u
    split at h
    · rename_i e0 hpt
      split at h
      · rename_i he0
        split at h
        · rename_i e xs fz hob
          obtain ⟨hc, h9⟩ := cond_some h
          clear h
          simp only [Bool.and_eq_true, decide_eq_true_eq] at hc
          obtain ⟨⟨hce0, hn⟩, h63⟩ := hc
          have hn : n = xs.length := by simpa using hn
          obtain rfl := beq_id hce0
          subst hn
          obtain ⟨hne, h9⟩ := onNil_ne h9
          unfold kBytes at h9
          cases hub : unBytes xs with
          | none => simp [hub] at h9
          | some l =>
            rw [hub] at h9
            simp only at h9
            have hd0 := ds_some he0 (by simp)
            have hpt := (und_lt (ds_some hpt (by simp))).2
            simp only [RepA] at hx
            obtain ⟨_, b, off, rfl, ha⟩ := hx
            obtain ⟨rfl, o, ho, rfl⟩ := ha _ _ _ hob
            simp only [offP] at ho
            obtain ⟨_, _, ho⟩ := Option.map_eq_some_iff.1 ho
            cases ho
            have hO := hM.objs j _ hob
            simp only [ObjAt] at hO
            obtain ⟨cs, el, fr, hb, hnf, hcs, hle, hrow, ⟨⟨dd, hdd⟩, hel, hce⟩, hS⟩ := hO
            obtain ⟨vs, g1, g2⟩ := RowV.flat hP hrow
            have g1 := RepFs.back hP hd0 g1
            have hlen := RepFs.size hP _ _ _ g1
            rw [sumCells_replicate, cells_int hP hd0, Nat.mul_one] at hlen
            obtain ⟨u1, u2, _, _⟩ := underId_spec hP hd0
            obtain ⟨ns, rfl, rfl⟩ := unBytes_spec g1 hub
            have hll : ns.length = xs.length := by simpa using hlen
            have hc1 : Γ.P.cellsOf el = 1 := by rw [hce, u2, cells_int hP hd0]
            have hsh : w.shape? (σ j).1 = some (el, cs.size) := by unfold World.shape?; rw [hb]
            have hrun := run_unsafeStr (w := w) (P := Γ.P) pt it ty e0 el hpt (σ j).1 cs.size hsh ns (by rintro rfl; apply hne; apply List.eq_nil_of_length_eq_zero; simpa using hll.symm) (lies_under hel (by omega) (by
              rw [hc1, Nat.div_one, hcs, u2, cells_int hP hd0, Nat.mul_one, hll]; exact hle)) (by rw [hll]; exact Int.ofNat_le.1 h63) (by
              intro q x hq
              have := g2 q (.int .u8 x) (by rw [List.getElem?_map, hq]; rfl)
              rw [Addr.add_lit]
              exact this)
            rw [hll] at hrun
            have hown := hM.own j _ hob
            have t1 := hM.kill j
            have t2 := t1.1.touch (w' := w.freeze ⟨(σ j).1, 0, none⟩ xs.length) (b := (σ j).1) hown.1 (fun k o hk => by
              obtain ⟨h1, h2⟩ := get_kill hk
              exact hM.apart k j _ _ h2 hob h1) (fun b' hb' => freeze_heap _ _ _ hb') (freeze_size _ _) (fun a ha => ⟨freeze_cell _ _ _, ha⟩) (fun n hn => freeze_whole _ _ hn) (freeze_env _ _)
            refine ⟨_, _, h9, .string ⟨(ns.map fun n => UInt8.ofNat n.toNat).toArray⟩, w.freeze ⟨(σ j).1, 0, none⟩ xs.length, S, σ, ?_, t1.trans t2, ?_⟩
            · simp only [Nat.zero_mul, Nat.zero_add]
              exact hrun
            · simp only [RepA]
              exact ⟨_, by simp, rfl⟩
        · exact absurd h (by simp)
      · exact absurd h (by simp)
    · exact absurd h (by simp)
  · exact absurd h (by simp)
end
end Go.Proofs.Ytapaenfafjmljaa.V

/- Operations. Part ten: one operation, whatever it is. -/
namespace Go.Proofs.Ytapaenfafjmljaa.V
open Go
set_option linter.unusedVariables false
set_option linter.unusedSimpArgs false

section
variable {Γ : Ctx} {w0 : World} {S0 : Addr → Prop} {X : XB} {w w' : World} {S S' : Addr → Prop} {σ σ' : Loc} {ob ob' : Objs} {R : Type}

def noLoc : Loc := fun _ => (0, 0)
/-- what a call leaves: what was there is there; new blocks, of which some are data -/
structure Left (Γ : Ctx) (w : World) (S : Addr → Prop) (w' : World) (S' : Addr → Prop) : Prop where
  same : ∀ b, b < w.heap.size → w'.heap[b]? = w.heap[b]?
  grow : w.heap.size ≤ w'.heap.size
  more : ∀ a, S a → S' a
  new : ∀ a, S' a → S a ∨ (w.heap.size ≤ a.block ∧ a.block < w'.heap.size)
  env : w'.os = w.os ∧ w'.output = w.output
/-- a function, called with data, comes to this -/
def Ret (Γ : Ctx) (g : FuncId) (args : List AV) (r : AV) : Prop :=
  ∀ (w : World) (S : Addr → Prop) (vals : List Value), (∀ a, S a → a.block < w.heap.size) → GlobOK Γ w S → RepAs Γ.P w S noLoc [] args vals →
    UponOK Γ.P (fun v w' => ∃ S', Left Γ w S w' S' ∧ RepA Γ.P w' S' noLoc [] r v) ((callFunc g vals.toArray).run Γ.P w)
/-- a function, called with values and objects, comes to this -/
def RetX (Γ : Ctx) (g : FuncId) (args : List AV) (obs : Objs) (r : AV) (obs' : Objs) : Prop :=
  ∀ (w : World) (S : Addr → Prop) (σ : Loc) (X : XB) (vals : List Value), X.roots.length = rootsOf Γ.roots g → MemOK Γ w S X w S σ obs → RepAs Γ.P w S σ obs args vals →
    UponOK Γ.P (fun v w' => ∃ S' σ', MemOK Γ w S X w' S' σ' obs' ∧ Keeps w S w' S' ∧ RepA Γ.P w' S' σ' obs' r v) ((callFunc g vals.toArray).run Γ.P w)
/-- what the handle says of calls is so -/
def CallsOK (Γ : Ctx) (call : Handle) : Prop := ∀ g args obs r obs', call g args obs = some (true, r, obs') → RetX Γ g args obs r obs'

theorem nil_stays (σ σ' : Loc) : Stays σ [] σ' [] := ⟨Nat.le_refl _, fun j hj => by simp at hj⟩
theorem RepAs.keep' {P : Program} (k : Keeps w S w' S') (st : Stays σ ob σ' ob') : ∀ {l : List AV} {vs : List Value}, RepAs P w S σ ob l vs → RepAs P w' S' σ' ob' l vs
  | [], vs, h => by simpa only [RepAs] using h
  | a :: r, vs, h => by
    simp only [RepAs] at h ⊢
    obtain ⟨v, vs', rfl, h1, h2⟩ := h
    exact ⟨v, vs', rfl, RepA.keep k st a v h1, RepAs.keep' k st h2⟩
theorem Ret.x {g : FuncId} {args : List AV} {r : AV} (h : Ret Γ g args r) : RetX Γ g args [] r [] := by
  intro w S σ X vals _ hM ha
  refine (h w S vals hM.sin hM.glob (ha.keep' (Keeps.refl w S) (nil_stays σ noLoc))).mono ?_
  rintro v w' ⟨S', hl, hr⟩
  have t := hM.more hl.same hl.grow hl.more hl.new hl.env
  exact ⟨S', σ, t.1, t.3, RepA.keep (Keeps.refl w' S') (nil_stays noLoc σ) r v hr⟩
theorem mem_nil (hS : ∀ a, S a → a.block < w.heap.size) (hG : GlobOK Γ w S) : MemOK Γ w S ⟨[], fun _ => False⟩ w S noLoc [] := by
  refine { objs := ?_, apart := ?_, own := ?_, old := fun _ _ _ => rfl, grow := Nat.le_refl _, s0 := fun _ h => h, snew := fun _ h => .inl h, sin := hS, glob := hG, env := ⟨rfl, rfl⟩, kept := Keeps.refl w S, root := ?_ }
  · intro j o h; simp at h
  · intro j j' o o' h; simp at h
  · intro j o h; simp at h
  · intro k p h; simp at h
theorem RetX.ret {g : FuncId} {args : List AV} {r : AV} (h : RetX Γ g args [] r []) (h0 : rootsOf Γ.roots g = 0) : Ret Γ g args r := by
  intro w S vals hS hG ha
  refine (h w S noLoc ⟨[], fun _ => False⟩ vals (by rw [h0]; rfl) (mem_nil hS hG) ha).mono ?_
  rintro v w' ⟨S', σ', hM, hk, hr⟩
  refine ⟨S', ⟨fun b hb => hM.old b hb (fun h => h), hM.grow, hM.s0, fun a ha => ?_, hM.env⟩, RepA.keep (Keeps.refl w' S') (nil_stays σ' noLoc) r v hr⟩
  rcases hM.snew a ha with h | h | h
  · exact .inl h
  · exact h.elim
  · exact .inr ⟨h, hM.sin a ha⟩

theorem openA_ok {P : Program} {t : TypeId} {a : AV} {K : AV → Option R} {r : R} (h : openA P t a K = some r) :
    ∃ a', K a' = some r ∧ ∀ {w : World} {S : Addr → Prop} {σ : Loc} {ob : Objs} {v : Value}, RepA P w S σ ob a v → RepA P w S σ ob a' v := by
  unfold openA at h
  split at h
  · cases a <;> simp only [aInt] at h
    case i k n =>
      obtain ⟨h1, h2⟩ := cond_some h
      obtain rfl := kEq_iff.1 h1
      exact ⟨_, h2, fun hr => by simpa only [RepA] using hr⟩
    all_goals exact absurd h (by simp)
  · cases a <;> simp only [aBool] at h
    case b x => exact ⟨_, h, fun hr => by simpa only [RepA] using hr⟩
    all_goals exact absurd h (by simp)
  · cases a <;> simp only [aStr] at h
    case s x => exact ⟨_, h, fun hr => by simpa only [RepA] using hr⟩
    all_goals exact absurd h (by simp)
  · cases a <;> simp only [aRow] at h
    case snil => exact ⟨_, h, fun hr => by
      simp only [RepA] at hr ⊢
      exact ⟨none, 0, hr, ⟨rfl, rfl, rfl⟩, by simp⟩⟩
    case sl e c xs =>
      obtain ⟨h1, h2⟩ := cond_some h
      obtain rfl := beq_id h1
      exact ⟨_, h2, fun hr => by simpa only [RepA] using hr⟩
    case ref e j =>
      obtain ⟨h1, h2⟩ := cond_some h
      obtain rfl := beq_id h1
      exact ⟨_, h2, fun hr => hr⟩
    all_goals exact absurd h (by simp)
  · cases a <;> simp only [aD] at h
    case d u x =>
      obtain ⟨h1, h2⟩ := cond_some h
      obtain rfl := beq_id h1
      exact ⟨_, openD_id _ _ _ _ _ h2, fun hr => by simpa only [RepA] using hr⟩
    all_goals exact absurd h (by simp)
  · cases a <;> simp only [aD] at h
    case d u x =>
      obtain ⟨h1, h2⟩ := cond_some h
      obtain rfl := beq_id h1
      obtain ⟨ys, rfl, h3⟩ := dAgg_some h2
      exact ⟨_, h3, fun hr => by simpa only [RepA] using hr⟩
    all_goals exact absurd h (by simp)
  · cases a <;> simp only [aPtr] at h
    case pnil => exact ⟨_, h, fun hr => hr⟩
    case ptr j p u =>
      obtain ⟨_, h2⟩ := cond_some h
      exact ⟨_, h2, fun hr => hr⟩
    all_goals exact absurd h (by simp)
  · cases a <;> simp only [aUnsafe] at h
    case ptr j p u => exact ⟨_, h, fun hr => hr⟩
    all_goals exact absurd h (by simp)
  · cases a <;> simp only [aNone] at h
    case undef => exact ⟨_, h, fun hr => hr⟩
    case err x => exact ⟨_, h, fun hr => hr⟩
    all_goals exact absurd h (by simp)
  · exact absurd h (by simp)
theorem openAs_ok {P : Program} : ∀ {ts : List TypeId} {l : List AV} {K : List AV → Option R} {r : R}, openAs P ts l K = some r →
    ∃ l', K l' = some r ∧ ∀ {w : World} {S : Addr → Prop} {σ : Loc} {ob : Objs} {vs : List Value}, RepAs P w S σ ob l vs → RepAs P w S σ ob l' vs
  | [], l, K, r, h => by
    cases l with
    | nil => exact ⟨[], h, fun hr => by simpa only [RepAs] using hr⟩
    | cons _ _ => simp [openAs, lNil] at h
  | t :: ts, l, K, r, h => by
    cases l with
    | nil => simp [openAs, lCons] at h
    | cons a q =>
      simp only [openAs, lCons] at h
      obtain ⟨a', h1, h2⟩ := openA_ok h
      obtain ⟨q', h3, h4⟩ := openAs_ok h1
      refine ⟨_, h3, fun hr => ?_⟩
      simp only [RepAs] at hr ⊢
      obtain ⟨v, vs', rfl, g1, g2⟩ := hr
      exact ⟨v, vs', rfl, h2 g1, h4 g2⟩
theorem openR_ok {P : Program} {t : TypeId} {a : AV} {K : AV → Option R} {r : R} (h : openR P t a K = some r) :
    ∃ a', K a' = some r ∧ ∀ {w : World} {S : Addr → Prop} {σ : Loc} {ob : Objs} {v : Value}, RepA P w S σ ob a v → RepA P w S σ ob a' v := by
  unfold openR at h
  split at h
  · cases a <;> simp only [aTuple] at h
    case tuple l =>
      obtain ⟨l', h1, h2⟩ := openAs_ok h
      refine ⟨_, h1, fun hr => ?_⟩
      simp only [RepA] at hr ⊢
      obtain ⟨vs, rfl, hr⟩ := hr
      exact ⟨vs, rfl, h2 hr⟩
    all_goals exact absurd h (by simp)
  · exact openA_ok h

theorem out_good {K : AV → Objs → Option R} {r : R} {s : Sem Value} (h : Out Γ w0 S0 X w S σ ob K r s) :
    ∃ av ob', K av ob' = some r ∧ OpGood Γ w0 S0 X w S σ ob av ob' (do pure (.value (← s))) := by
  obtain ⟨av, ob', hK, cv, w', S', σ', hr, ht, hv⟩ := h
  exact ⟨av, ob', hK, good_val (run_v hr) ht hv⟩
theorem same_good (hM : MemOK Γ w0 S0 X w S σ ob) {K : AV → Option R} {r : R} {s : Sem Value} (h : ∃ av, K av = some r ∧ ∃ cv, RepA Γ.P w S σ ob av cv ∧ s.run Γ.P w = .ok cv w) {K' : AV → Objs → Option R} (hk : ∀ a, K' a ob = K a) :
    ∃ av ob', K' av ob' = some r ∧ OpGood Γ w0 S0 X w S σ ob av ob' (do pure (.value (← s))) := by
  obtain ⟨av, hK, cv, hv, hr⟩ := h
  exact ⟨av, ob, by rw [hk]; exact hK, good_same hM (run_v hr) hv⟩

theorem RepAs.of_map {ρ : Operand → AV} {cρ : Operand → Value} (hρ : ∀ x, RepA Γ.P w S σ ob (ρ x) (cρ x)) : ∀ (l : List Operand), RepAs Γ.P w S σ ob (l.map ρ) (l.map cρ)
  | [] => by simp only [List.map_nil, RepAs]
  | x :: r => by simp only [List.map_cons, RepAs]; exact ⟨_, _, rfl, hρ x, RepAs.of_map hρ r⟩

theorem RepAs.app {P : Program} : ∀ {l m : List AV} {vs us : List Value}, RepAs P w S σ ob l vs → RepAs P w S σ ob m us → RepAs P w S σ ob (l ++ m) (vs ++ us)
  | [], m, vs, us, h1, h2 => by simp only [RepAs] at h1; subst h1; simpa using h2
  | a :: l, m, vs, us, h1, h2 => by
    simp only [RepAs, List.cons_append] at h1 ⊢
    obtain ⟨v, vs', rfl, g1, g2⟩ := h1
    exact ⟨v, vs' ++ us, rfl, g1, RepAs.app g2 h2⟩
theorem call_ok (hP : tabOk Γ.P = true) (hM : MemOK Γ w0 S0 X w S σ ob) {call : Handle} (hc : CallsOK Γ call) {t : TypeId} {g : AV} {vg : Value} {as : List AV} {vals : List Value} {K : AV → Objs → Option R} {r : R}
    (hg : RepA Γ.P w S σ ob g vg) (has : RepAs Γ.P w S σ ob as vals) (h : opCall Γ call t g as ob K = some r) :
    ∃ av ob', K av ob' = some r ∧ OpGood Γ w0 S0 X w S σ ob av ob' (do let d ← Deferred.ofValue vg vals.toArray; invoke d.target d.args) := by
  unfold opCall at h
  split at h
  · rename_i f caps
    simp only [RepA] at hg
    obtain ⟨cs, rfl, hcs⟩ := hg
    cases hfz : frzC (memF f Γ.refs) (as ++ caps) ob with
    | mk args ob1 =>
      rw [hfz] at h
      simp only at h
      generalize hrts : idsL args = rts at h
      generalize hord : reach ob1 400 (idsOb ob1 rts) rts = ord at h
      obtain ⟨hcl, h⟩ := cond_some h
      simp only [Bool.and_eq_true] at hcl
      obtain ⟨hcl, hn⟩ := hcl
      have hn := beq_id hn
      obtain ⟨hnd, hin, hob⟩ := clsd_spec hcl
      obtain ⟨S1, t1, ha1⟩ := frzC_ok hP hM hfz (RepAs.app has hcs)
      cases hcall : call f (renL (fun j => posN j ord) args) (ord.map fun j => renO (fun j => posN j ord) (ob1.getD j none)) with
      | none => rw [hcall] at h; exact absurd h (by simp)
      | some p =>
        obtain ⟨c, rv, obs⟩ := p
        rw [hcall] at h
        simp only at h
        obtain ⟨hsame, h9⟩ := cond_some h
        clear h
        simp only [Bool.and_eq_true] at hsame
        obtain ⟨hsame, rfl⟩ := hsame
        obtain ⟨av, hK, hopen⟩ := openR_ok h9
        have hpre : ∃ r, ord = rts ++ r := by rw [← hord]; exact reach_pre 400 _ _
        obtain ⟨hsub, hmv⟩ := sub_ok t1.1 hnd hob hpre
        have hargs : RepAs Γ.P w S1 _ _ (renL (fun j => posN j ord) args) (vals ++ cs) := RepAs.ren args (vals ++ cs) (fun j hj => hmv j (hin j (by rw [← hrts]; exact hj))) ha1
        have hret := hc f _ _ _ _ hcall w S1 _ _ (vals ++ cs) (by simp only [subX, List.length_map]; exact hn.symm) hsub hargs
        refine ⟨av, _, hK, ?_⟩
        unfold OpGood
        have hrun : (do let d ← Deferred.ofValue (.func (.func f) #[] cs.toArray) vals.toArray; invoke d.target d.args : Sem Next).run Γ.P w = (callFunc f (vals ++ cs).toArray).run Γ.P w := by
          simp [Deferred.ofValue, invoke]
        rw [hrun]
        refine hret.mono fun v w' ⟨S', σ2, hM2, hk, hv⟩ => ?_
        obtain ⟨σ'', ht, hren⟩ := back_ok t1.1 hnd hpre hM2 hk hsame
        exact ⟨S', σ'', t1.trans ht, hopen (hren _ _ hv)⟩
  · exact absurd h (by simp)

theorem builtin_ok (hP : tabOk Γ.P = true) (hZ : zeroOk Γ.P = true) (hM : MemOK Γ w0 S0 X w S σ ob) {b : Builtin} {ts : List TypeId} {as : List AV} {vals : List Value} {ty : TypeId} {cs : Array Bool} {K : AV → Objs → Option R} {r : R}
    (has : RepAs Γ.P w S σ ob as vals) (h : opBuiltin Γ.P b ts as ob K = some r) :
    ∃ av ob', K av ob' = some r ∧ OpGood Γ w0 S0 X w S σ ob av ob' (builtin b ts.toArray ty cs vals.toArray) := by
  cases b <;> try (simp only [opBuiltin] at h; exact absurd h (by simp))
  case len =>
    cases ts with
    | nil => simp [opBuiltin] at h
    | cons t ts =>
      cases as with
      | nil => simp [opBuiltin] at h
      | cons a as =>
        simp only [RepAs] at has
        obtain ⟨v, vs', rfl, h1, h2⟩ := has
        exact out_good (len_ok hM (ty := ty) h1 h)
  case append =>
    rcases ts with _ | ⟨t, _ | ⟨t', _ | ⟨t3, tr⟩⟩⟩ <;> rcases as with _ | ⟨s, _ | ⟨x, _ | ⟨y, yr⟩⟩⟩ <;> try (simp only [opBuiltin] at h; exact absurd h (by simp))
    simp only [RepAs] at has
    obtain ⟨v, _, rfl, h1, v', _, rfl, h2, rfl⟩ := has
    simp only [opBuiltin] at h
    split at h
    · rename_i e hd
      exact out_good (append_ok (ty := ty) hP hZ hM (.inl ⟨_, (und_lt (ds_some hd (by simp))).2⟩) h1 h2 h)
    · rename_i hd
      exact out_good (append_ok (ty := ty) hP hZ hM (.inr (und_lt (ds_some hd (by simp))).2) h1 h2 h)
    · exact absurd h (by simp)
  case min =>
    cases as with
    | nil => simp [opBuiltin] at h
    | cons a as =>
      simp only [RepAs] at has
      obtain ⟨v, vs', rfl, h1, h2⟩ := has
      cases a <;> try (simp only [opBuiltin] at h; exact absurd h (by simp))
      case i k x =>
        simp only [opBuiltin] at h
        split at h
        · rename_i y hy
          simp only [RepA] at h1; subst h1
          exact out_good (out_same hM h (s := Builtin.min_ ts.toArray ty (Value.int k x :: vs').toArray) (by simpa [Builtin.min_] using minL_run as vs' x y h2 hy) repI)
        · exact absurd h (by simp)
  case max =>
    cases as with
    | nil => simp [opBuiltin] at h
    | cons a as =>
      simp only [RepAs] at has
      obtain ⟨v, vs', rfl, h1, h2⟩ := has
      cases a <;> try (simp only [opBuiltin] at h; exact absurd h (by simp))
      case i k x =>
        simp only [opBuiltin] at h
        split at h
        · rename_i y hy
          simp only [RepA] at h1; subst h1
          exact out_good (out_same hM h (s := Builtin.max_ ts.toArray ty (Value.int k x :: vs').toArray) (by simpa [Builtin.max_] using maxL_run as vs' x y h2 hy) repI)
        · exact absurd h (by simp)
  case unsafeSliceData =>
    rcases as with _ | ⟨x, _ | ⟨y, yr⟩⟩ <;> try (simp only [opBuiltin] at h; exact absurd h (by simp))
    simp only [RepAs] at has
    obtain ⟨v, _, rfl, h1, rfl⟩ := has
    exact out_good (sliceData_ok hM h1 h)
  case unsafeString =>
    rcases ts with _ | ⟨t, _ | ⟨t', _ | ⟨t3, tr⟩⟩⟩ <;> rcases as with _ | ⟨s, _ | ⟨x, _ | ⟨y, yr⟩⟩⟩ <;> try (simp only [opBuiltin] at h; exact absurd h (by simp))
    cases x <;> try (simp only [opBuiltin] at h; exact absurd h (by simp))
    rename_i k n
    cases k <;> try (simp only [opBuiltin] at h; exact absurd h (by simp))
    simp only [RepAs, RepA] at has
    obtain ⟨v, _, rfl, h1, v', _, rfl, rfl, rfl⟩ := has
    exact out_good (uString_ok hP hM h1 h)
/-! ### one operation -/
theorem optRep {ρ : Operand → AV} {cρ : Operand → Value} (hρ : ∀ x, RepA Γ.P w S σ ob (ρ x) (cρ x)) (o : Option Operand) : OptRep Γ w S σ ob (o.map ρ) (o.map cρ) := by
  cases o with
  | none => exact trivial
  | some x => exact hρ x
theorem parts_get {ρ : Operand → AV} {cρ : Operand → Value} (hρ : ∀ x, RepA Γ.P w S σ ob (ρ x) (cρ x)) (ps : Array (Nat × Operand)) :
    (ps.map fun (i, x) => (i, cρ x)).toList.length = (ps.toList.map fun p => (p.1, ρ p.2)).length ∧
    ∀ (k : Nat) (p : Nat × AV), (ps.toList.map fun p => (p.1, ρ p.2))[k]? = some p → ∃ v, (ps.map fun (i, x) => (i, cρ x)).toList[k]? = some (p.1, v) ∧ RepA Γ.P w S σ ob p.2 v := by
  refine ⟨by simp, fun k p hp => ?_⟩
  rw [List.getElem?_map] at hp
  obtain ⟨q, hq, rfl⟩ := Option.map_eq_some_iff.1 hp
  refine ⟨cρ q.2, ?_, hρ _⟩
  rw [Array.toList_map, List.getElem?_map, hq]
  rfl
theorem stepOp_ok (hP : tabOk Γ.P = true) (hZ : zeroOk Γ.P = true) (hM : MemOK Γ w0 S0 X w S σ ob) {call : Handle} (hc : CallsOK Γ call) {f : FuncId} {o : Oper} {ρ : Operand → AV} {cρ : Operand → Value}
    (hρ : ∀ x, RepA Γ.P w S σ ob (ρ x) (cρ x)) (hcn : cρ (.const .nilIface) = .nilIface) {K : AV → Objs → Option R} {r : R} (h : stepOp Γ call f o ρ ob K = some r) :
    ∃ av ob', K av ob' = some r ∧ OpGood Γ w0 S0 X w S σ ob av ob' (execOp cρ o) := by
  obtain ⟨dst, op, type, pos, after, guard⟩ := o
  cases op <;> simp only [stepOp] at h <;> (try exact absurd h (by simp)) <;> simp only [execOp]
  case move x => exact ⟨_, ob, h, good_same hM (by simp) (hρ x)⟩
  case assign x => exact ⟨_, ob, h, good_same hM (by simp) (hρ x)⟩
  case pick c a b =>
    split at h
    · rename_i x hx
      have := hρ c
      rw [hx] at this
      simp only [RepA] at this
      rcases cond_cases h with ⟨rfl, h⟩ | ⟨rfl, h⟩
      · exact ⟨_, ob, h, good_same hM (by simp [this, asBool]) (hρ a)⟩
      · exact ⟨_, ob, h, good_same hM (by simp [this, asBool]) (hρ b)⟩
    · exact absurd h (by simp)
  case alloc e =>
    obtain ⟨hf, h⟩ := cond_some h
    obtain ⟨w', σ', cv, hr, ht, hv⟩ := alloc_ok hP hZ hM hf
    exact ⟨_, _, h, good_val (run_v hr) ht hv⟩
  case box e x =>
    obtain ⟨hf, h⟩ := cond_some h
    obtain ⟨w', σ', cv, hr, ht, hv⟩ := box_ok hP hM hf (hρ x)
    exact ⟨_, _, h, good_val (run_v hr) ht hv⟩
  case build t ps =>
    obtain ⟨g1, g2⟩ := parts_get hρ ps
    exact same_good hM (build_ok hP hZ h g1 g2) (fun _ => rfl)
  case buildSlice t n ps =>
    obtain ⟨g1, g2⟩ := parts_get hρ ps
    exact out_good (buildSlice_ok hP hZ hM h g1 g2)
  case load t a =>
    obtain ⟨av, hK, cv, hv, hr⟩ := load_ok hP hM (hρ a) h
    exact ⟨av, ob, hK, good_same hM (run_v hr) hv⟩
  case store t a x =>
    obtain ⟨ob', hK, w', ht, hr⟩ := store_ok hP hM (hρ a) (hρ x) h
    exact ⟨.undef, ob', hK, good_skip (run_u hr) ht⟩
  case nilCheck x =>
    split at h
    · rename_i j p u hx
      have hr := hρ x
      rw [hx] at hr
      have hr' := hr
      simp only [RepA] at hr
      obtain ⟨_, b, off, hv, _⟩ := hr
      rw [hv] at hr' ⊢
      exact ⟨_, ob, h, good_same hM (by simp) hr'⟩
    · rename_i u y hx
      have hr := hρ x
      rw [hx] at hr
      have hr' := hr
      simp only [RepA] at hr
      obtain ⟨b, o, vs, hv, _⟩ := hr
      rw [hv] at hr' ⊢
      exact ⟨_, ob, h, good_same hM (by simp) hr'⟩
    · exact absurd h (by simp)
  case binOp op t x y yt =>
    rcases cond_cases h with ⟨hc, h⟩ | ⟨_, h⟩
    · obtain ⟨av, hK, cv, hv, hr⟩ := errK_ok hc h (hρ x)
      exact ⟨av, ob, hK, good_same hM (run_v (by rw [show cρ y = .nilIface from (isNilC_eq hc) ▸ hcn]; exact hr x)) hv⟩
    rcases cond_cases h with ⟨_, h⟩ | ⟨_, h⟩
    · obtain ⟨av, hK, cv, hv, hr⟩ := ptrEq_ok h (hρ x) (hρ y)
      exact ⟨av, ob, hK, good_same hM (run_v (hr x y)) hv⟩
    · obtain ⟨av, hK, cv, hv, hr⟩ := opBin_ok hP h (hρ x) (hρ y)
      exact ⟨av, ob, hK, good_same hM (run_v (hr x y)) hv⟩
  case unOp op t x =>
    split at h
    · rename_i a ha
      obtain ⟨cv, hv, hr⟩ := opUn_ok ha (hρ x)
      exact ⟨_, ob, h, good_same hM (run_v hr) hv⟩
    · exact absurd h (by simp)
  case convert s d x =>
    rcases cond_cases h with ⟨_, h⟩ | ⟨_, h⟩
    · obtain ⟨av, hK, cv, hv, hr⟩ := ptrConv_ok hP hM (hρ x) h
      exact ⟨av, ob, hK, good_same hM (run_v hr) hv⟩
    · exact out_good (convert_ok hP hM (hρ x) h)
  case makeSlice t l c => exact out_good (makeSlice_ok hP hZ hM (hρ l) (hρ c) h)
  case slice t x lo hi mx =>
    by_cases hna : ∃ n e, ds Γ.P t = .array n e
    · obtain ⟨n, e, hd⟩ := hna
      obtain ⟨av, ob', hK, cv, w', S', σ', hr, ht, hv⟩ := sliceBox_ok hP hM (hρ x) (optRep hρ lo) (optRep hρ hi) (optRep hρ mx) hd h
      exact ⟨av, ob', hK, good_val (run_v hr) ht hv⟩
    · have hna : ∀ n e, ds Γ.P t ≠ .array n e := fun n e hd => hna ⟨n, e, hd⟩
      have hat : (Instr.sliceAt t (cρ x) (lo.map cρ) (hi.map cρ) (mx.map cρ)).run Γ.P w = (Instr.slice t (cρ x) (lo.map cρ) (hi.map cρ) (mx.map cρ)).run Γ.P w := by
        have hd : ∃ d, und Γ.P t = some d ∧ ∀ n e, d ≠ .array n e := by
          unfold opSlice at h
          split at h
          · rename_i hd _; exact ⟨_, ds_some hd (by simp), by simp⟩
          · rename_i hd _; exact ⟨_, ds_some hd (by simp), by simp⟩
          · rename_i hd _; exact ⟨_, ds_some hd (by simp), by simp⟩
          · rename_i hd _; exact ⟨_, ds_some hd (by simp), by simp⟩
          · rename_i hd _; exact absurd hd (hna _ _)
          · exact absurd h (by simp)
        obtain ⟨d, hd, hna⟩ := hd
        cases d <;> first | exact absurd rfl (hna _ _) | simp [Instr.sliceAt, run_underlying (und_lt hd).2]
      obtain ⟨av, ob', hK, cv, w', S', σ', hr, ht, hv⟩ := slice_ok hP hM (hρ x) (optRep hρ lo) (optRep hρ hi) (optRep hρ mx) hna h
      exact ⟨av, ob', hK, good_val (run_v (hat.trans hr)) ht hv⟩
  case fieldAddr s x i => exact same_good hM (fieldAddr_ok hP (hρ x) h) (fun _ => rfl)
  case field t x i => exact same_good hM (field_ok hP (hρ x) h) (fun _ => rfl)
  case indexAddr t x ix => exact same_good hM (indexAddr_ok hP (hρ x) (hρ ix) h) (fun _ => rfl)
  case index t x ix => exact same_good hM (index_ok hP (hρ x) (hρ ix) h) (fun _ => rfl)
  case extract x i => exact same_good hM (extract_ok (hρ x) h) (fun _ => rfl)
  case makeFunc fn first caps =>
    split at h
    · rename_i g hf
      have hf : first = #[] := by simpa using hf
      subst hf
      refine ⟨_, ob, h, good_same hM (v := .func (.func g) #[] (caps.map cρ)) (by simp [Instr.makeFunc]) ?_⟩
      · simp only [RepA]
        exact ⟨caps.toList.map cρ, by congr 1; apply Array.ext'; simp, RepAs.of_map hρ _⟩
    · exact absurd h (by simp)
  case call c =>
    split at h
    · rename_i b hb
      obtain ⟨cs, e⟩ : ∃ cs, (do let d ← resolve cρ c type; invoke d.target d.args : Sem Next).run Γ.P w = (builtin b c.argTypes.toList.toArray type cs (c.args.toList.map cρ).toArray).run Γ.P w := by
        have e2 : (c.args.toList.map cρ).toArray = c.args.map cρ := by apply Array.ext'; simp
        rw [e2]
        unfold resolve
        rw [hb]
        exact ⟨_, rfl⟩
      obtain ⟨av, ob', hK, hg⟩ := builtin_ok (vals := c.args.toList.map cρ) (ty := type) (cs := cs) hP hZ hM (RepAs.of_map hρ _) h
      refine ⟨av, ob', hK, ?_⟩
      unfold OpGood at hg ⊢
      rw [e]; exact hg
    · rename_i g hg
      obtain ⟨av, ob', hK, hgd⟩ := call_ok hP hM hc (vals := c.args.toList.map cρ) (hρ g) (RepAs.of_map hρ _) h
      refine ⟨av, ob', hK, ?_⟩
      have e2 : (c.args.toList.map cρ).toArray = c.args.map cρ := by apply Array.ext'; simp
      rw [e2] at hgd
      unfold resolve
      rw [hg]
      exact hgd
    · exact absurd h (by simp)
end
end Go.Proofs.Ytapaenfafjmljaa.V

/- Regions: a list of operations. -/
namespace Go.Proofs.Ytapaenfafjmljaa.V
open Go
set_option linter.unusedVariables false
set_option linter.unusedSimpArgs false

section
variable {Γ : Ctx} {w0 : World} {S0 : Addr → Prop} {X : XB} {w w' : World} {S S' : Addr → Prop} {σ σ' : Loc} {ob ob' : Objs} {R : Type}

/-- temporaries and objects stand for what the frame and the memory hold -/
structure StOK (Γ : Ctx) (w0 : World) (S0 : Addr → Prop) (X : XB) (n : Nat) (st : St) (a : Act) (w : World) (S : Addr → Prop) (σ : Loc) : Prop where
  mem : MemOK Γ w0 S0 X w S σ st.ob
  tm : ∀ t, RepA Γ.P w S σ st.ob (get st.tm t) (a.tmps.getD t undef)
  size : n ≤ a.tmps.size
  defers : a.defers = []

theorem get_put (dst : Option Nat) (v : AV) (tm : Tm) (t : Nat) : get (put dst v tm) t = if dst = some t then v else get tm t := by
  cases dst with
  | none => simp [put]
  | some d =>
    simp only [put, get, Option.some.injEq]
    by_cases h : d = t
    · subst h; simp
    · rw [if_neg h]
      cases hb : Nat.beq d t with
      | true => exact absurd (beq_id hb) h
      | false => rfl
theorem getD_put (a : Act) (dst : Option Nat) (v : Value) (t : Nat) (hd : ∀ d, dst = some d → d < a.tmps.size) : (a.put dst v).tmps.getD t undef = if dst = some t then v else a.tmps.getD t undef := by
  cases dst with
  | none => simp [Act.put]
  | some d =>
    simp only [Act.put, Option.some.injEq]
    by_cases h : d = t
    · subst h
      have := hd d rfl
      simp [this]
    · rw [if_neg h]
      simp [Array.getElem?_setIfInBounds_ne h]
theorem StOK.put {n : Nat} {st : St} {a : Act} {av : AV} {ob' : Objs} {v : Value} {dst : Option Nat} (h : StOK Γ w0 S0 X n st a w S σ) (ht : Trans Γ w0 S0 X w S σ st.ob w' S' σ' ob') (hv : RepA Γ.P w' S' σ' ob' av v)
    (hd : ∀ d, dst = some d → d < n) : StOK Γ w0 S0 X n ⟨V.put dst av st.tm, ob'⟩ (a.put dst v) w' S' σ' := by
  refine ⟨ht.1, fun t => ?_, ?_, ?_⟩
  · simp only
    rw [get_put, getD_put a dst v t (fun d e => Nat.lt_of_lt_of_le (hd d e) h.size)]
    by_cases hc : dst = some t
    · rw [if_pos hc, if_pos hc]; exact hv
    · rw [if_neg hc, if_neg hc]; exact ht.2 _ _ (h.tm t)
  · cases dst <;> simp [Act.put, h.size]
  · cases dst <;> simp [Act.put, h.defers]
theorem ofConst_ok {P : Program} (v : Value) : RepA P w S σ ob (ofConst v) v := by
  unfold ofConst
  split <;> simp only [RepA]
  · exact ⟨_, rfl, rfl⟩
  · exact .inl ⟨trivial, trivial⟩
theorem evo_ok {n : Nat} {st : St} {a : Act} (h : StOK Γ w0 S0 X n st a w S σ) (x : Operand) : RepA Γ.P w S σ st.ob (evo Γ st.tm x) (a.eval x) := by
  cases x with
  | tmp t => exact h.tm t
  | const v => exact ofConst_ok v
  | global g =>
    simp only [evo, Act.eval]
    cases hg : Γ.G g with
    | none => simp only [RepA]
    | some p =>
      obtain ⟨t, x⟩ := p
      obtain ⟨vs, h1, h2⟩ := h.mem.glob.data g t x hg
      simp only [RepA]
      exact ⟨g, 0, vs, rfl, h1, h2.1⟩
  | func f =>
    simp only [evo, Act.eval, RepA]
    exact ⟨[], rfl, by simp only [RepAs]⟩
/-- one operation of a region, wanted -/
theorem oper_ok (hP : tabOk Γ.P = true) (hZ : zeroOk Γ.P = true) {call : Handle} (hc : CallsOK Γ call) {f : FuncId} {n : Nat} {st : St} {a : Act} {o : Oper} (h : StOK Γ w0 S0 X n st a w S σ)
    (hd : ∀ d, o.dst = some d → d < n) {K : AV → Objs → Option R} {r : R} (hs : stepOp Γ call f o (evo Γ st.tm) st.ob K = some r) {next : Act → World → Prop} {Q : Exit → Act → World → Prop}
    (hn : ∀ av ob' a' w' S' σ', K av ob' = some r → StOK Γ w0 S0 X n ⟨V.put o.dst av st.tm, ob'⟩ a' w' S' σ' → next a' w') : o.wp Γ.P a w next Q := by
  obtain ⟨av, ob', hK, hg⟩ := stepOp_ok hP hZ h.mem hc (evo_ok h) rfl hs
  unfold Oper.wp
  unfold OpGood at hg
  exact upon_of hg fun v w' ⟨S', σ', ht, hv⟩ => hn av ob' _ _ S' σ' hK (h.put ht hv hd)
theorem skip_rep {P : Program} : RepA P w S σ ob (.tuple []) undef := by
  simp only [RepA]; exact ⟨[], rfl, by simp only [RepAs]⟩
theorem yielded_skip {P : Program} {ops : Array Oper} {tmps : Array Value} {j d : Nat} (hd : (ops.toList[j]?).bind (·.dst) = some d) (h : RepA P w S σ ob (.tuple []) (tmps.getD d undef)) : yielded ops tmps j = none := by
  simp only [RepA, RepAs] at h
  obtain ⟨vs, h, rfl⟩ := h
  unfold yielded
  have : (ops[j]?).bind (·.dst) = some d := by simpa using hd
  rw [this]
  simp only [Option.bind_some]
  rw [Array.getD_eq_getD_getElem?] at h
  cases hq : tmps[d]? with
  | none => rfl
  | some v =>
    rw [hq] at h
    simp only [Option.getD_some] at h
    rw [h]
theorem guard_ok {n : Nat} {st : St} {a : Act} {ops : Array Oper} {o : Oper} (h : StOK Γ w0 S0 X n st a w S σ) {K : Bool → Tm → Option R} {r : R} (hs : guardK ops.toList o st.tm K = some r) :
    ∃ b tm, K b tm = some r ∧ Region.wanted o (yielded ops a.tmps) = b ∧ StOK Γ w0 S0 X n ⟨tm, st.ob⟩ a w S σ := by
  unfold guardK at hs
  split at hs
  · rename_i hg
    exact ⟨true, st.tm, hs, by simp [Region.wanted, hg], h⟩
  · rename_i j want hg
    split at hs
    · exact absurd hs (by simp)
    · rename_i d hd
      split at hs
      · rename_i x hx
        have htm := h.tm d
        rw [hx] at htm
        simp only [RepA] at htm
        have hdz : d < a.tmps.size := by
          rcases Nat.lt_or_ge d a.tmps.size with hlt | hge
          · exact hlt
          · rw [Array.getD_eq_getD_getElem?, Array.getElem?_eq_none hge] at htm; simp [undef] at htm
        have hy : yielded ops a.tmps j = some x := by
          unfold yielded
          have : (ops[j]?).bind (·.dst) = some d := by simpa using hd
          rw [this]
          simp only [Option.bind_some]
          rw [Array.getElem?_eq_getElem hdz]
          rw [Array.getD_eq_getD_getElem?, Array.getElem?_eq_getElem hdz] at htm
          simp only [Option.getD_some] at htm
          rw [htm]
        have hst : ∀ y, y = x → StOK Γ w0 S0 X n ⟨(d, .b y) :: st.tm, st.ob⟩ a w S σ := by
          rintro y rfl
          refine ⟨h.mem, fun t => ?_, h.size, h.defers⟩
          have := get_put (some d) (.b y) st.tm t
          simp only [V.put] at this
          simp only
          rw [this]
          by_cases hdt : some d = some t
          · rw [if_pos hdt]; cases hdt; simp only [RepA]; exact htm
          · rw [if_neg hdt]; exact h.tm t
        rcases cond_cases hs with ⟨rfl, hs⟩ | ⟨rfl, hs⟩
        · exact ⟨_, _, hs, by simp [Region.wanted, hg, hy], hst _ rfl⟩
        · exact ⟨_, _, hs, by simp [Region.wanted, hg, hy], hst _ rfl⟩
      · rename_i hx
        have htm := h.tm d
        rw [hx] at htm
        have hy : yielded ops a.tmps j = none := yielded_skip hd htm
        exact ⟨false, _, hs, by simp [Region.wanted, hg, hy], h⟩
      · exact absurd hs (by simp)
/-- the operations of a region, one after the other -/
theorem stepOps_ok (hP : tabOk Γ.P = true) (hZ : zeroOk Γ.P = true) {call : Handle} (hc : CallsOK Γ call) {f : FuncId} {n : Nat} {ops : Array Oper} {K : St → Option R} {r : R} {Q : Exit → Act → World → Prop}
    (hQ : ∀ st a w S σ, K st = some r → StOK Γ w0 S0 X n st a w S σ → Q .normal a w) (hd : ∀ o ∈ ops.toList, ∀ d, o.dst = some d → d < n) :
    ∀ (l : List Oper) (k : Nat), ops.toList.drop k = l → ∀ (st : St) (a : Act) (w : World) (S : Addr → Prop) (σ : Loc), StOK Γ w0 S0 X n st a w S σ → stepOps Γ call f ops.toList l st K = some r →
      wpOps Γ.P ops Q ((List.range ops.size).drop k) a w
  | [], k, hl, st, a, w, S, σ, h, hs => by
    have : ops.size ≤ k := by have := List.drop_eq_nil_iff.1 hl; simpa using this
    rw [List.drop_eq_nil_of_le (by simpa using this)]
    simp only [stepOps] at hs
    simp only [wpOps]
    exact hQ _ _ _ _ _ hs h
  | o :: l, k, hl, st, a, w, S, σ, h, hs => by
    have hk : ops.toList[k]? = some o := by
      have := congrArg (·[0]?) hl
      simpa using this
    have hkl := getL hk
    have hok : ops[k]? = some o := by simpa using hk
    have hl2 : ops.toList.drop (k + 1) = l := by
      rw [← List.drop_drop, hl]; rfl
    rw [List.drop_eq_getElem_cons (by simpa using hkl), List.getElem_range]
    have hdo : ∀ d, o.dst = some d → d < n := hd o (List.mem_of_getElem? hk)
    simp only [stepOps] at hs
    obtain ⟨b, tm, hs, hw, h'⟩ := guard_ok h hs
    simp only [wpOps, hok, hw]
    rcases cond_cases hs with ⟨rfl, hs2⟩ | ⟨rfl, hs2⟩
    · simp only [if_true]
      refine .inl (oper_ok hP hZ hc h' hdo hs2 fun av ob' a' w' S' σ' hK hst => ?_)
      exact stepOps_ok hP hZ hc hQ hd l (k + 1) hl2 _ a' w' S' σ' hst hK
    · simp only [Bool.false_eq_true, if_false]
      exact stepOps_ok hP hZ hc hQ hd l (k + 1) hl2 _ _ w S σ (h'.put (Trans.refl h'.mem) skip_rep hdo) hs2
end
end Go.Proofs.Ytapaenfafjmljaa.V

/- Labels: what is kept there stands for what was there. -/
namespace Go.Proofs.Ytapaenfafjmljaa.V
open Go
set_option linter.unusedVariables false
set_option linter.unusedSimpArgs false

section
variable {Γ : Ctx} {w0 : World} {S0 : Addr → Prop} {X : XB} {w w' : World} {S S' : Addr → Prop} {σ σ' : Loc} {ob ob' : Objs} {R : Type}
theorem clean_ok {P : Program} {a : AV} {v : Value} (h : RepA P w S σ ob a v) : RepA P w S σ ob (clean ob a) v := by
  unfold clean
  split <;> try exact h
  · split
    · exact h
    · simp only [RepA]
  · split
    · exact h
    · simp only [RepA]
theorem get_map {live : List Nat} {F : Nat → AV} {t : Nat} : get (live.map fun t => (t, F t)) t = if t ∈ live then F t else .undef := by
  induction live with
  | nil => simp [get]
  | cons a r ih =>
    simp only [List.map_cons, get]
    cases hb : Nat.beq a t with
    | true => obtain rfl := beq_id hb; simp
    | false =>
      have hne : t ≠ a := fun e => by subst e; simp at hb
      simp only [cond_false, ih, List.mem_cons, hne, false_or]
theorem ids_mem {p : Nat × AV} {j : Nat} (hj : j ∈ idsA p.2) : ∀ {tm : Tm}, p ∈ tm → j ∈ idsL (tm.map (·.2))
  | [], hp => by cases hp
  | q :: r, hp => by
    simp only [List.map_cons, idsL, List.mem_append]
    rcases List.mem_cons.1 hp with e | e
    · subst e; exact .inl hj
    · exact .inr (ids_mem hj e)
theorem pre_get {m k : Nat} {r : List Nat} (h : k < m) : (List.range m ++ r)[k]? = some k := by
  rw [List.getElem?_append_left (by simpa using h)]; simp [h]
/-- objects in another order, the first ones in their places -/
theorem order_ok (hM : MemOK Γ w0 S0 X w S σ ob) {m : Nat} (hm : X.roots.length = m) {ord ids l : List Nat} (hord : reach ob 400 l (List.range m) = ord) (hc : clsd ob ord ids = true) :
    MemOK Γ w0 S0 X w S (fun k => σ (ord.getD k 0)) (ord.map fun j => renO (fun j => posN j ord) (ob.getD j none)) ∧
    ∀ j ∈ ord, Moved σ ob (fun k => σ (ord.getD k 0)) (ord.map fun j => renO (fun j => posN j ord) (ob.getD j none)) (fun j => posN j ord) j := by
  obtain ⟨hnd, _, hob⟩ := clsd_spec hc
  obtain ⟨h1, h2, h3, h4⟩ := move_objs hnd hob hM.objs hM.apart rfl rfl rfl
  refine ⟨{ objs := h3, apart := h4, own := ?_, old := hM.old, grow := hM.grow, s0 := hM.s0, snew := hM.snew, sin := hM.sin, glob := hM.glob, env := hM.env, kept := hM.kept, root := ?_ }, h1⟩
  · intro k o' hk
    obtain ⟨j, o, hj, hoj, _, hs⟩ := h2 k o' hk
    rw [hs]
    exact hM.own j o hoj
  · intro k p hk
    have hkm : k < m := by rw [← hm]; exact (List.getElem?_eq_some_iff.1 hk).1
    obtain ⟨r, hr⟩ := reach_pre (ob := ob) 400 l (List.range m)
    rw [hord] at hr
    have hg : ord[k]? = some k := by rw [hr]; exact pre_get hkm
    refine ⟨by simp; exact (List.getElem?_eq_some_iff.1 hg).1, ?_⟩
    rw [List.getD_eq_getElem?_getD, hg]
    exact (hM.root k p hk).2
theorem restrict_ok {n m : Nat} {live : List Nat} {st : St} {a : Act} (hm : X.roots.length = m) (h : StOK Γ w0 S0 X n st a w S σ) (hc : closedR m live st = true) : ∃ σ', StOK Γ w0 S0 X n (restrict m live st) a w S σ' := by
  obtain ⟨tm, ob⟩ := st
  simp only [closedR] at hc
  simp only [restrict]
  generalize htm : (live.map fun t => (t, clean ob (get tm t))) = tm1 at *
  generalize hord : reach ob 400 (idsOb ob (List.range m) ++ idsL (tm1.map (·.2))) (List.range m) = ord at *
  obtain ⟨hmem, hmv⟩ := order_ok h.mem hm hord hc
  obtain ⟨_, hin, _⟩ := clsd_spec hc
  refine ⟨_, ⟨hmem, fun t => ?_, h.size, h.defers⟩⟩
  have e : (tm1.map fun p => (p.1, renA (fun j => posN j ord) p.2)) = live.map fun t => (t, renA (fun j => posN j ord) (clean ob (get tm t))) := by rw [← htm, List.map_map]; rfl
  show RepA Γ.P w S _ _ (get (tm1.map fun p => (p.1, renA (fun j => posN j ord) p.2)) t) _
  rw [e, get_map]
  split
  · rename_i ht
    exact RepA.ren (g := fun j => posN j ord) _ _ (fun j hj => hmv j (hin j (ids_mem (p := (t, clean ob (get tm t))) hj (by rw [← htm]; exact List.mem_map.2 ⟨t, ht, rfl⟩)))) (clean_ok (h.tm t))
  · simp only [RepA]
end
end Go.Proofs.Ytapaenfafjmljaa.V

/- Operations that do nothing to objects: they hand on one value, or none, whatever goes on behind them. -/
namespace Go.Proofs.Ytapaenfafjmljaa.V
open Go
set_option linter.unusedVariables false
set_option linter.unusedSimpArgs false

/-- one thing is handed on, or none -/
def Aff {A : Type} (F : ∀ R : Type, (A → Option R) → Option R) : Prop := (∃ a, ∀ R K, F R K = K a) ∨ ∀ R K, F R K = none
section
variable {A B : Type} {F : ∀ R : Type, (A → Option R) → Option R}
theorem Aff.pure (a : A) : Aff (fun R (K : A → Option R) => K a) := .inl ⟨a, fun _ _ => rfl⟩
theorem Aff.zero : Aff (fun R (_ : A → Option R) => none) := .inr fun _ _ => rfl
theorem Aff.map (h : Aff F) (g : A → B) : Aff (fun R (K : B → Option R) => F R fun a => K (g a)) := by
  rcases h with ⟨a, h⟩ | h
  · exact .inl ⟨g a, fun R K => h R _⟩
  · exact .inr fun R K => h R _
theorem Aff.bind (h : Aff F) {G : A → ∀ R : Type, (B → Option R) → Option R} (hG : ∀ a, Aff (G a)) : Aff (fun R (K : B → Option R) => F R fun a => G a R K) := by
  rcases h with ⟨a, h⟩ | h
  · rcases hG a with ⟨b, hb⟩ | hb
    · exact .inl ⟨b, fun R K => (h R _).trans (hb R K)⟩
    · exact .inr fun R K => (h R _).trans (hb R K)
  · exact .inr fun R K => h R _
theorem Aff.cond (b : Bool) (h : Aff F) : Aff (fun R K => bif b then F R K else none) := by
  cases b
  · exact .inr fun _ _ => rfl
  · exact h
theorem Aff.opt (o : Option A) : Aff (fun R (K : A → Option R) => match o with | some a => K a | none => none) := by
  cases o
  · exact .inr fun _ _ => rfl
  · exact .inl ⟨_, fun _ _ => rfl⟩
end
theorem dInt_a (k : IntKind) (x : D) : Aff (fun R (K : Int → Option R) => dInt k x K) := by
  cases x <;> first | exact .inr fun _ _ => rfl | exact Aff.cond _ (Aff.pure _)
theorem dBool_a (x : D) : Aff (fun R (K : Bool → Option R) => dBool x K) := by
  cases x <;> first | exact .inr fun _ _ => rfl | exact .inl ⟨_, fun _ _ => rfl⟩
theorem dStr_a (x : D) : Aff (fun R (K : List UInt8 → Option R) => dStr x K) := by
  cases x <;> first | exact .inr fun _ _ => rfl | exact .inl ⟨_, fun _ _ => rfl⟩
theorem dSlice_a (x : D) : Aff (fun R (K : Cp × List D → Option R) => dSlice x fun c l => K (c, l)) := by
  cases x <;> first | exact .inr fun _ _ => rfl | exact .inl ⟨_, fun _ _ => rfl⟩
theorem dAgg_a (x : D) : Aff (fun R (K : List D → Option R) => dAgg x K) := by
  cases x <;> first | exact .inr fun _ _ => rfl | exact .inl ⟨_, fun _ _ => rfl⟩
theorem lNil_a {α B : Type} (l : List α) {F : ∀ R : Type, (B → Option R) → Option R} (h : Aff F) : Aff (fun R K => lNil l (F R K)) := by
  cases l
  · exact h
  · exact .inr fun _ _ => rfl
theorem lCons_a {α : Type} (l : List α) : Aff (fun R (K : α × List α → Option R) => lCons l fun a r => K (a, r)) := by
  cases l
  · exact .inr fun _ _ => rfl
  · exact .inl ⟨_, fun _ _ => rfl⟩
theorem lGet_a {α : Type} (l : List α) (i : Nat) : Aff (fun R (K : α → Option R) => lGet l i K) := by
  unfold lGet; cases l[i]? <;> first | exact .inr fun _ _ => rfl | exact Aff.pure _
theorem idx_a {α : Type} (l : List α) (n : Int) : Aff (fun R (K : α → Option R) => idx l n K) := Aff.cond _ (lGet_a _ _)
theorem kBytes_a (l : List D) : Aff (fun R (K : List UInt8 → Option R) => kBytes l K) := by
  unfold kBytes; cases unBytes l
  · exact .inr fun _ _ => rfl
  · exact .inl ⟨_, fun _ _ => rfl⟩
theorem openL_a {f : TypeId → D → ∀ R : Type, (D → Option R) → Option R} (hf : ∀ t x, Aff (f t x)) {f' : ∀ R : Type, TypeId → D → (D → Option R) → Option R} (he : ∀ R t x K, f' R t x K = f t x R K) :
    ∀ (ts : List TypeId) (ys : List D), Aff (fun R (K : List D → Option R) => openL (f' R) ts ys K)
  | [], ys => lNil_a ys (Aff.pure _)
  | t :: ts, ys => by
    cases ys with
    | nil => exact .inr fun _ _ => rfl
    | cons y r =>
      have h1 := (hf t y).bind (G := fun y' R (K : List D → Option R) => openL (f' R) ts r fun r' => K (y' :: r')) fun y' => (openL_a hf he ts r).map (y' :: ·)
      rcases h1 with ⟨a, h⟩ | h
      · exact .inl ⟨a, fun R K => by simp only [openL, lCons, he]; exact h R K⟩
      · exact .inr fun R K => by simp only [openL, lCons, he]; exact h R K
theorem openD_a (P : Program) : ∀ (n : Nat) (t : TypeId) (x : D), Aff (fun R (K : D → Option R) => openD P n t x K)
  | 0, t, x => .inr fun _ _ => rfl
  | n + 1, t, x => by
    unfold openD
    cases ds P t <;> try exact .inr fun _ _ => rfl
    case int k => exact (dInt_a k x).map _
    case bool => exact (dBool_a x).map _
    case string => exact (dStr_a x).map _
    case slice e => exact (dSlice_a x).map fun p => D.slice p.1 p.2
    case struct fs => exact (dAgg_a x).bind fun ys => (openL_a (f := fun t x R K => openD P n t x K) (fun t x => openD_a P n t x) (f' := fun R t x K => openD P n t x K) (fun _ _ _ _ => rfl) _ ys).map _
    case array => exact (dAgg_a x).map _
theorem navD_a : ∀ (p : List Nat) (x : D), Aff (fun R (K : D → Option R) => navD p x K)
  | [], x => Aff.pure x
  | i :: p, x => (dAgg_a x).bind fun ys => (lGet_a ys i).bind fun y => navD_a p y
theorem navA_a (P : Program) : ∀ (p : List Nat) (a : AV), Aff (fun R (K : AV ⊕ D → Option R) => navA P p a K)
  | [], a => Aff.pure _
  | i :: p, a => by
    cases a <;> try exact .inr fun _ _ => rfl
    case d t x => exact (navD_a (i :: p) x).map _
    case agg t l =>
      simp only [navA]
      cases l[i]? with
      | none => exact .inr fun _ _ => rfl
      | some a => exact navA_a P p a
theorem nilK_a (op : BinOp) (p q : Option Bool) : Aff (fun R (K : AV → Option R) => nilK op p q K) := by
  cases p <;> cases q <;> try exact .inr fun _ _ => rfl
  refine Aff.cond _ ?_
  cases op <;> first | exact .inr fun _ _ => rfl | exact .inl ⟨_, fun _ _ => rfl⟩
theorem nilD_a (P : Program) (op : BinOp) (t : TypeId) (x y : AV) : Aff (fun R (K : AV → Option R) => match ds P t with
    | .slice _ => nilK op (isNilS x) (isNilS y) K
    | .pointer _ => nilK op (isNilP x) (isNilP y) K
    | _ => none) := by
  cases ds P t <;> first | exact .inr fun _ _ => rfl | exact nilK_a _ _ _
theorem errK_a (P : Program) (op : BinOp) (t : TypeId) (a : AV) : Aff (fun R (K : AV → Option R) => errK P op t a K) := by
  unfold errK
  split
  · exact .inl ⟨_, fun _ _ => rfl⟩
  · exact .inl ⟨_, fun _ _ => rfl⟩
  · exact .inr fun _ _ => rfl
theorem opInt_a (op : BinOp) (k k' : IntKind) (a b : Int) : Aff (fun R (K : AV → Option R) => bif kEq k k' then (match opInt op k a b with | some r => K r | none => none) else none) := by
  refine Aff.cond _ ?_
  cases opInt op k a b <;> first | exact .inr fun _ _ => rfl | exact Aff.pure _
theorem opStr_a (op : BinOp) (a b : List UInt8) : Aff (fun R (K : AV → Option R) => match opStr op a b with | some r => K r | none => none) := by
  cases opStr op a b <;> first | exact .inr fun _ _ => rfl | exact Aff.pure _
theorem quo_a {v : AV} (b : Bool) : Aff (fun R (K : AV → Option R) => bif b then none else K v) := by
  cases b
  · exact Aff.pure _
  · exact .inr fun _ _ => rfl
theorem opBin_a (P : Program) (op : BinOp) (t : TypeId) (x y : AV) : Aff (fun R (K : AV → Option R) => opBin P op t x y K) := by
  cases x <;> cases y <;> try exact nilD_a P op t _ _
  case i.i k a k' b => cases op <;> first | exact opInt_a _ k k' a b | exact Aff.cond _ (Aff.pure _) | exact Aff.cond _ (quo_a _)
  case s.s a b => cases op <;> first | exact .inr fun _ _ => rfl | exact Aff.pure _ | exact opStr_a _ a b | exact Aff.cond _ (Aff.pure _)
  case b.b a b =>
    cases op <;> first
      | exact .inr fun _ _ => rfl
      | (simp only [opBin]; cases ds P t <;> first | exact .inr fun _ _ => rfl | exact Aff.pure _)
  case d.d u a u' b => exact Aff.cond _ (by cases op <;> first | exact .inr fun _ _ => rfl | exact Aff.pure _)
theorem opFieldAddr_a (P : Program) (s : TypeId) (i : Nat) (a : AV) : Aff (fun R (K : AV → Option R) => opFieldAddr P s i a K) := by
  unfold opFieldAddr
  cases fieldT P s i with
  | none => cases a <;> exact .inr fun _ _ => rfl
  | some ft => cases a <;> first | exact .inr fun _ _ => rfl | exact Aff.cond _ (Aff.pure _) | exact Aff.cond _ ((dAgg_a _).bind fun ys => (lGet_a ys i).map _)
theorem opField_a (P : Program) (s : TypeId) (i : Nat) (a : AV) : Aff (fun R (K : AV → Option R) => opField P s i a K) := by
  unfold opField
  cases fieldT P s i with
  | none => cases a <;> exact .inr fun _ _ => rfl
  | some ft => cases a <;> first | exact .inr fun _ _ => rfl | (rename_i l; refine Aff.cond _ ?_; cases l[i]? <;> first | exact .inr fun _ _ => rfl | exact Aff.pure _) | exact Aff.cond _ ((dAgg_a _).bind fun ys => (lGet_a ys i).bind fun z => (openD_a P depth ft z).map _)
theorem opIndexAddr_a (P : Program) (t : TypeId) (x ix : AV) (ob : Objs) : Aff (fun R (K : AV → Option R) => opIndexAddr P t x ix ob K) := by
  unfold opIndexAddr
  cases ix <;> cases x <;> try exact .inr fun _ _ => rfl
  case i.sl => cases ds P t <;> first | exact .inr fun _ _ => rfl | exact Aff.cond _ ((idx_a _ _).map _)
  case i.ref k n e j =>
    cases ds P t <;> try exact .inr fun _ _ => rfl
    refine Aff.cond _ ?_
    cases ob[j]? with
    | none => exact .inr fun _ _ => rfl
    | some o => cases o with
      | none => exact .inr fun _ _ => rfl
      | some o => cases o <;> first | exact .inr fun _ _ => rfl | exact Aff.cond _ (Aff.pure _)
  case i.vp => cases ds P t <;> first | exact .inr fun _ _ => rfl | exact Aff.cond _ ((dAgg_a _).bind fun ys => (idx_a ys _).map _)
  case i.ptr => cases ds P t <;> first | exact .inr fun _ _ => rfl | exact Aff.cond _ (Aff.pure _)
theorem opIndex_a (P : Program) (t : TypeId) (x ix : AV) : Aff (fun R (K : AV → Option R) => opIndex P t x ix K) := by
  unfold opIndex
  cases ix <;> cases x <;> try exact .inr fun _ _ => rfl
  case i.s => cases ds P t <;> first | exact .inr fun _ _ => rfl | exact (idx_a _ _).map _
  case i.d => cases ds P t <;> first | exact .inr fun _ _ => rfl | exact Aff.cond _ ((dAgg_a _).bind fun ys => (idx_a ys _).bind fun y => (openD_a P depth _ y).map _)
theorem opExtract_a (x : AV) (i : Nat) : Aff (fun R (K : AV → Option R) => opExtract x i K) := by
  cases x <;> try exact .inr fun _ _ => rfl
  rename_i l; simp only [opExtract]; cases l[i]? <;> first | exact .inr fun _ _ => rfl | exact Aff.pure _
theorem opBuild_a (P : Program) (t : TypeId) (ps : List (Nat × AV)) : Aff (fun R (K : AV → Option R) => opBuild P t ps K) := by
  refine Aff.cond _ ?_
  cases fillA P t (zeroA P depth t) ps <;> first | exact .inr fun _ _ => rfl | exact Aff.pure _
/-- a load hands the objects on as they are -/
theorem opLoad_a (P : Program) (t : TypeId) (a : AV) (ob : Objs) : Aff (fun R (K : AV → Option R) => opLoad P t a ob fun v _ => K v) ∧ ∀ R (K : AV → Objs → Option R), opLoad P t a ob K = opLoad P t a ob fun v _ => K v ob := by
  refine ⟨?_, fun R K => ?_⟩
  · unfold opLoad
    cases a <;> try exact .inr fun _ _ => rfl
    case vp => exact Aff.cond _ ((openD_a P _ _ _).map _)
    case ptr j p u =>
      refine Aff.cond _ ?_
      cases ob[j]? with
      | none => exact .inr fun _ _ => rfl
      | some o => cases o with
        | none => exact .inr fun _ _ => rfl
        | some o =>
          cases o
          · refine (navA_a P p _).bind fun r => ?_
            cases r
            · exact Aff.cond _ (Aff.pure _)
            · exact (openD_a P _ _ _).map _
          · exact .inr fun _ _ => rfl
    case ap j i p u =>
      refine Aff.cond _ ?_
      cases ob[j]? with
      | none => exact .inr fun _ _ => rfl
      | some o => cases o with
        | none => exact .inr fun _ _ => rfl
        | some o =>
          cases o
          · exact .inr fun _ _ => rfl
          · exact (lGet_a _ _).bind fun x => (navD_a p x).bind fun y => (openD_a P _ _ _).map _
  · unfold opLoad; rfl
theorem bnd_a (a : Option AV) (df top : Nat) : Aff (fun R (K : Nat → Option R) => bnd a df top K) := by
  unfold bnd
  cases a with
  | none => exact Aff.pure _
  | some a => cases a <;> first | exact .inr fun _ _ => rfl | exact Aff.cond _ (Aff.pure _)
theorem opSlice_a (P : Program) (t : TypeId) (x : AV) (lo hi mx : Option AV) (ob : Objs) (hx : noObj x = true) :
    Aff (fun R (K : AV → Option R) => opSlice P false t x lo hi mx ob fun v _ => K v) ∧ ∀ R (K : AV → Objs → Option R), opSlice P false t x lo hi mx ob K = opSlice P false t x lo hi mx ob fun v _ => K v ob := by
  unfold opSlice
  cases x <;> (try exact Bool.noConfusion (show false = true from hx)) <;> refine ⟨?_, fun R K => ?_⟩ <;> cases ds P t <;> (try exact .inr fun _ _ => rfl) <;> (try rfl)
  case s.refine_1.string =>
    cases mx <;> first | exact .inr fun _ _ => rfl | exact (bnd_a _ _ _).bind fun h => (bnd_a _ _ _).map _
  case snil.refine_1.slice =>
    cases mx <;> first | exact .inr fun _ _ => rfl | exact (bnd_a _ _ _).bind fun h => (bnd_a _ _ _).map _
  case sl.refine_1.slice =>
    refine Aff.cond _ ?_
    cases mx
    · exact (bnd_a _ _ _).bind fun h => (bnd_a _ _ _).map _
    · cases hi
      · exact .inr fun _ _ => rfl
      · exact (bnd_a _ _ _).bind fun m => (bnd_a _ _ _).bind fun h => (bnd_a _ _ _).bind fun a => Aff.cond _ (Aff.pure _)

/-- of calls: those alone that hand on nothing but data and leave nothing -/
theorem calmH_nil (call : Handle) (g : FuncId) (args : List AV) (a : Nat) (l : List Nat) (F : Nat → Option Obj) : calmH call g args ((a :: l).map F) = none := rfl
theorem frzL_noRef {ob : Objs} : ∀ {l : List AV}, (l.all noRef) = true → frzL l ob = (l, ob)
  | [], _ => rfl
  | a :: r, h => by
    simp only [List.all_cons, Bool.and_eq_true] at h
    have h1 : frz a ob = (a, ob) := by
      cases a <;> first | rfl | exact Bool.noConfusion (show false = true from h.1)
    simp only [frzL, h1, frzL_noRef h.2]
theorem aInt_a (k : IntKind) (x : AV) : Aff (fun R (K : Int → Option R) => aInt k x K) := by
  cases x <;> first | exact .inr fun _ _ => rfl | exact Aff.cond _ (Aff.pure _)
theorem aBool_a (x : AV) : Aff (fun R (K : Bool → Option R) => aBool x K) := by
  cases x <;> first | exact .inr fun _ _ => rfl | exact .inl ⟨_, fun _ _ => rfl⟩
theorem aStr_a (x : AV) : Aff (fun R (K : List UInt8 → Option R) => aStr x K) := by
  cases x <;> first | exact .inr fun _ _ => rfl | exact .inl ⟨_, fun _ _ => rfl⟩
theorem aSl_a (e : TypeId) (x : AV) : Aff (fun R (K : Cp × List D → Option R) => aSl e x fun c l => K (c, l)) := by
  cases x <;> first | exact .inr fun _ _ => rfl | exact .inl ⟨(_, _), fun _ _ => rfl⟩ | (exact Aff.cond _ (Aff.pure (A := Cp × List D) (_, _)))
theorem aRow_a (e : TypeId) (x : AV) : Aff (fun R (K : AV → Option R) => aRow e x K) := by
  cases x <;> first | exact .inr fun _ _ => rfl | exact .inl ⟨_, fun _ _ => rfl⟩ | (exact Aff.cond _ (Aff.pure _))
theorem aD_a (t : TypeId) (x : AV) : Aff (fun R (K : D → Option R) => aD t x K) := by
  cases x <;> first | exact .inr fun _ _ => rfl | exact Aff.cond _ (Aff.pure _)
theorem aPtr_a (t : TypeId) (x : AV) : Aff (fun R (K : AV → Option R) => aPtr t x K) := by
  cases x <;> first | exact .inr fun _ _ => rfl | exact Aff.cond _ (Aff.pure _) | exact .inl ⟨_, fun _ _ => rfl⟩
theorem aTuple_a (x : AV) : Aff (fun R (K : List AV → Option R) => aTuple x K) := by
  cases x <;> first | exact .inr fun _ _ => rfl | exact .inl ⟨_, fun _ _ => rfl⟩
theorem openA_a (P : Program) (t : TypeId) (a : AV) : Aff (fun R (K : AV → Option R) => openA P t a K) := by
  unfold openA
  cases ds P t <;> try exact .inr fun _ _ => rfl
  case int k => exact (aInt_a k a).map _
  case bool => exact (aBool_a a).map _
  case string => exact (aStr_a a).map _
  case slice e => exact aRow_a _ a
  case struct fs => exact (aD_a _ a).bind fun x => (openD_a P depth t x).map _
  case array => exact (aD_a _ a).bind fun x => (dAgg_a x).map _
  case pointer e => exact aPtr_a _ a
  case unsafePointer => cases a <;> first | exact .inr fun _ _ => rfl | exact .inl ⟨_, fun _ _ => rfl⟩
  case interface => cases a <;> first | exact .inr fun _ _ => rfl | exact .inl ⟨_, fun _ _ => rfl⟩
theorem openAs_a (P : Program) : ∀ (ts : List TypeId) (l : List AV), Aff (fun R (K : List AV → Option R) => openAs P ts l K)
  | [], l => lNil_a l (Aff.pure _)
  | t :: ts, l => by
    cases l with
    | nil => exact .inr fun _ _ => rfl
    | cons a r => exact (openA_a P t a).bind fun a' => (openAs_a P ts r).map (a' :: ·)
theorem openR_a (P : Program) (t : TypeId) (a : AV) : Aff (fun R (K : AV → Option R) => openR P t a K) := by
  unfold openR
  cases h : ds P t
  case tuple ts => exact (aTuple_a a).bind fun l => (openAs_a P ts.toList l).map _
  all_goals exact openA_a P t a

/-- a calm operation hands on one value and the objects as they are, or nothing -/
def Calm (ob : Objs) (F : ∀ R : Type, (AV → Objs → Option R) → Option R) : Prop := (∃ a, ∀ R K, F R K = K a ob) ∨ ∀ R K, F R K = none
theorem Calm.of {ob : Objs} {F : ∀ R : Type, (AV → Objs → Option R) → Option R} (h : Aff fun R (K : AV → Option R) => F R fun v _ => K v) (he : ∀ R K, F R K = F R fun v _ => K v ob) : Calm ob F := by
  rcases h with ⟨a, h⟩ | h
  · exact .inl ⟨a, fun R K => (he R K).trans (h R fun v => K v ob)⟩
  · exact .inr fun R K => (he R K).trans (h R fun v => K v ob)
theorem Calm.aff {ob : Objs} {F : ∀ R : Type, (AV → Option R) → Option R} (h : Aff F) : Calm ob fun R K => F R fun a => K a ob := by
  rcases h with ⟨a, h⟩ | h
  · exact .inl ⟨a, fun R K => h R _⟩
  · exact .inr fun R K => h R _
theorem calm_call (Γ : Ctx) (call : Handle) (t : TypeId) (g : AV) (as : List AV) (ob : Objs) (hg : noCaps g = true) (h : (as.all noRef) = true) : Calm ob fun R K => opCall Γ (calmH call) t g as ob K := by
  unfold opCall
  cases g <;> try exact .inr fun _ _ => rfl
  rename_i f caps
  cases caps with
  | cons _ _ => exact Bool.noConfusion (show false = true from hg)
  | nil =>
    have hfc : frzC (memF f Γ.refs) (as ++ []) ob = (as, ob) := by rw [List.append_nil]; cases memF f Γ.refs <;> simp only [frzC, frzL_noRef h]
    simp only [hfc]
    cases hb : (clsd ob (reach ob 400 (idsOb ob (idsL as)) (idsL as)) (idsL as) && Nat.beq (rootsOf Γ.roots f) (idsL as).length) with
    | false => exact .inr fun R K => by simp only [hb, cond_false]
    | true =>
      obtain ⟨x, hx⟩ := reach_pre (ob := ob) 400 (idsOb ob (idsL as)) (idsL as)
      cases hr : idsL as with
      | cons a l =>
        rw [hr] at hx
        refine .inr fun R K => ?_
        simp only [hr] at hb
        simp only [hr]
        simp only [hb, cond_true]
        rw [hx]
        simp only [List.cons_append, calmH_nil]
      | nil =>
        rw [hr] at hb
        have h0 : reach ob 400 (idsOb ob []) [] = [] := rfl
        simp only [h0] at hb ⊢
        simp only [hb, cond_true, List.map_nil]
        simp only [calmH, lNil]
        cases hc : call f (renL (fun j => posN j []) as) [] with
        | none => exact .inr fun R K => rfl
        | some p =>
          obtain ⟨c, r, os⟩ := p
          cases os with
          | cons _ _ => exact .inr fun R K => rfl
          | nil =>
            cases hri : idsA r with
            | cons _ _ => exact .inr fun R K => by simp only [lNil, hri]
            | nil =>
            cases c with
            | false => exact .inr fun R K => by simp only [lNil, hri, Bool.and_false, cond_false]
            | true =>
            have := openR_a Γ.P t (renA (backN [] (List.length ob)) r)
            rcases this with ⟨a, h1⟩ | h1
            · refine .inl ⟨a, fun R K => ?_⟩
              simp only [lNil, hri, sameBoxes, Bool.true_and, cond_true]
              exact (h1 R _).trans (by simp [putRoots, killAll])
            · refine .inr fun R K => ?_
              simp only [lNil, hri, sameBoxes, Bool.true_and, cond_true]
              exact h1 R _
theorem opConvert_c (P : Program) (s d : TypeId) (x : AV) (ob : Objs) : Calm ob fun R K => opConvert P false s d x ob K := by
  unfold opConvert
  cases und P s with
  | none => exact .inr fun _ _ => rfl
  | some sd =>
    cases ds P d <;> try (cases x <;> first | exact .inr fun R K => rfl | exact .inl ⟨_, fun R K => rfl⟩)
    case slice e =>
      cases x <;> try exact .inr fun _ _ => rfl
      simp only
      cases ds P e <;> try exact .inr fun _ _ => rfl
      rename_i k
      cases k <;> first | exact .inr fun _ _ => rfl | exact .inl ⟨_, fun _ _ => rfl⟩
    case string =>
      cases sd <;> try (cases x <;> first | exact .inr fun R K => rfl | exact .inl ⟨_, fun R K => rfl⟩)
      rename_i e
      simp only
      cases ds P e <;> try (cases x <;> first | exact .inr fun R K => rfl | exact .inl ⟨_, fun R K => rfl⟩)
      rename_i k
      cases k <;> try (cases x <;> first | exact .inr fun R K => rfl | exact .inl ⟨_, fun R K => rfl⟩)
      cases hq : elems P (underId P e) ob x with
      | none => cases x <;> first | exact .inl ⟨_, fun R K => rfl⟩ | exact .inr fun R K => by simp only [hq]
      | some xs =>
        have hk := Calm.aff (ob := ob) ((kBytes_a xs).map AV.s)
        rcases hk with ⟨a, hk⟩ | hk
        · cases x <;> first | exact .inl ⟨_, fun R K => rfl⟩ | exact .inl ⟨a, fun R K => by simp only [hq]; exact hk R K⟩
        · cases x <;> first | exact .inl ⟨_, fun R K => rfl⟩ | exact .inr fun R K => by simp only [hq]; exact hk R K
theorem fillL_noRef (P : Program) (e : TypeId) : ∀ (ps : List (Nat × AV)) (xs : List D), (ps.all fun p => noRef p.2) = true → ∃ o : Option (List D), ∀ ob : Objs, fillL P e xs ps ob = o.map fun ys => (ys, ob)
  | [], xs, _ => ⟨some xs, fun _ => rfl⟩
  | (i, v) :: r, xs, h => by
    simp only [List.all_cons, Bool.and_eq_true] at h
    have h1 : ∀ ob, frz v ob = (v, ob) := fun ob => by
      cases v <;> first | rfl | exact Bool.noConfusion (show false = true from h.1)
    simp only [fillL, h1]
    cases toD v with
    | none => exact ⟨none, fun _ => rfl⟩
    | some y =>
      cases hb : (isTy P e v && Nat.blt i xs.length) with
      | false => exact ⟨none, fun _ => by simp only [cond_false]; rfl⟩
      | true =>
        obtain ⟨o, ho⟩ := fillL_noRef P e r (xs.set i y) h.2
        exact ⟨o, fun ob => by simp only [cond_true]; exact ho ob⟩
theorem opBuildSlice_c2 (P : Program) (t : TypeId) (n : Nat) (ps : List (Nat × AV)) (h : (ps.all fun p => noRef p.2) = true) : (∃ a, ∀ (ob : Objs) (R : Type) (K : AV → Objs → Option R), opBuildSlice P false t n ps ob K = K a ob) ∨ ∀ (ob : Objs) (R : Type) (K : AV → Objs → Option R), opBuildSlice P false t n ps ob K = none := by
  unfold opBuildSlice
  cases ds P t <;> try exact .inr fun _ _ _ => rfl
  rename_i e
  simp only
  cases toD (zeroA P depth e) with
  | none => exact .inr fun _ _ _ => rfl
  | some z =>
    simp only
    cases fits P e (zeroA P depth e) && Nat.ble (n * P.cellsOf e) 16777216 with
    | false => exact .inr fun _ _ _ => rfl
    | true =>
      obtain ⟨o, ho⟩ := fillL_noRef P e ps (List.replicate n z) h
      simp only [cond_true, ho]
      cases o <;> first | exact .inr fun _ _ _ => rfl | exact .inl ⟨_, fun _ _ _ => rfl⟩
theorem opBuildSlice_c (P : Program) (t : TypeId) (n : Nat) (ps : List (Nat × AV)) (ob : Objs) (h : (ps.all fun p => noRef p.2) = true) : Calm ob fun R K => opBuildSlice P false t n ps ob K := by
  rcases opBuildSlice_c2 P t n ps h with ⟨a, h⟩ | h
  · exact .inl ⟨a, h ob⟩
  · exact .inr (h ob)
theorem opBuiltin_c (P : Program) (b : Builtin) (ts : List TypeId) (as : List AV) (ob : Objs) (h : (match b with | .len | .min | .max | .unsafeSliceData => true | _ => false) = true) : Calm ob fun R K => opBuiltin P b ts as ob K := by
  cases b <;> try exact Bool.noConfusion (show false = true from h)
  case len =>
    cases ts <;> cases as <;> try exact .inr fun _ _ => rfl
    rename_i t ts a as
    simp only [opBuiltin]
    cases ds P t <;> try (first | exact .inr fun _ _ => rfl | exact .inl ⟨_, fun _ _ => rfl⟩)
    case pointer p => simp only; cases ds P p <;> first | exact .inr fun _ _ => rfl | exact .inl ⟨_, fun _ _ => rfl⟩
    case string => cases a <;> first | exact .inr fun _ _ => rfl | exact .inl ⟨_, fun _ _ => rfl⟩
    case slice => simp only; cases lenA ob a <;> first | exact .inr fun _ _ => rfl | exact .inl ⟨_, fun _ _ => rfl⟩
  case unsafeSliceData =>
    cases as with
    | nil => cases ts <;> exact .inr fun _ _ => rfl
    | cons x as => cases as with
      | cons _ _ => cases ts <;> exact .inr fun _ _ => rfl
      | nil =>
        simp only [opBuiltin]
        cases x <;> try exact .inr fun _ _ => rfl
        case snil => exact .inl ⟨_, fun _ _ => rfl⟩
        case sl e c xs => cases c <;> first | exact .inr fun _ _ => rfl | exact .inl ⟨_, fun _ _ => rfl⟩
        case ref e j =>
          simp only
          cases ob[j]? with
          | none => exact .inr fun _ _ => rfl
          | some o => cases o with
            | none => exact .inr fun _ _ => rfl
            | some o => cases o with
              | box => exact .inr fun _ _ => rfl
              | arr e xs fz => cases xs <;> first | exact .inr fun _ _ => rfl | exact .inl ⟨_, fun _ _ => rfl⟩
  case min =>
    cases ts <;> cases as <;> (try exact .inr fun _ _ => rfl) <;> (rename_i a as; cases a) <;> (try exact .inr fun _ _ => rfl) <;> simp only [opBuiltin]
    all_goals (rename_i k x; cases minL k x as <;> first | exact .inr fun _ _ => rfl | exact .inl ⟨_, fun _ _ => rfl⟩)
  case max =>
    cases ts <;> cases as <;> (try exact .inr fun _ _ => rfl) <;> (rename_i a as; cases a) <;> (try exact .inr fun _ _ => rfl) <;> simp only [opBuiltin]
    all_goals (rename_i k x; cases maxL k x as <;> first | exact .inr fun _ _ => rfl | exact .inl ⟨_, fun _ _ => rfl⟩)
theorem opPtrEq_a (P : Program) (op : BinOp) (t : TypeId) (x y : AV) (ob : Objs) : Aff fun R (K : AV → Option R) => opPtrEq P op t x y ob K := by
  cases x <;> cases y <;> try exact .inr fun _ _ => rfl
  rename_i j p u j' p' u'
  unfold opPtrEq
  simp only
  cases ob[j]? with
  | none => exact .inr fun _ _ => rfl
  | some o => cases o with
    | none => exact .inr fun _ _ => rfl
    | some o => cases o with
      | arr => exact .inr fun _ _ => rfl
      | box tb c =>
        cases ds P t <;> try exact .inr fun _ _ => rfl
        refine Aff.cond _ ?_
        cases op <;> first | exact .inr fun _ _ => rfl | exact Aff.pure _
theorem opPtrConv_a (P : Program) (s d : TypeId) (x : AV) (ob : Objs) : Aff fun R (K : AV → Option R) => opPtrConv P s d x ob K := by
  cases x <;> try exact .inr fun _ _ => rfl
  rename_i j p u
  cases p <;> try exact .inr fun _ _ => rfl
  unfold opPtrConv
  simp only
  cases ob[j]? with
  | none => exact .inr fun _ _ => rfl
  | some o => cases o with
    | none => exact .inr fun _ _ => rfl
    | some o => cases o with
      | arr => exact .inr fun _ _ => rfl
      | box tb c =>
        cases und P s with
        | none => exact .inr fun _ _ => rfl
        | some sd => cases sd <;> cases ds P d <;> first | exact .inr fun _ _ => rfl | exact Aff.cond _ (Aff.pure _)
/-- what is called calm is so -/
theorem calm_ok (Γ : Ctx) (call : Handle) (f : FuncId) (o : Oper) (ρ : Operand → AV) (ob : Objs) (h : isCalm Γ f o ρ = true) : Calm ob fun R K => stepOp Γ (calmH call) f o ρ ob K := by
  obtain ⟨dst, op, type, pos, after, guard⟩ := o
  cases op <;> simp only [stepOp] <;> (try exact Bool.noConfusion (show false = true from h))
  case makeFunc fn first caps =>
    cases fn <;> try exact .inr fun _ _ => rfl
    cases first.toList <;> first | exact .inr fun _ _ => rfl | exact .inl ⟨_, fun _ _ => rfl⟩
  case move x => exact .inl ⟨_, fun _ _ => rfl⟩
  case assign x => exact .inl ⟨_, fun _ _ => rfl⟩
  case pick c a b =>
    cases ρ c <;> try exact .inr fun _ _ => rfl
    rename_i x
    cases x
    · exact .inl ⟨_, fun _ _ => rfl⟩
    · exact .inl ⟨_, fun _ _ => rfl⟩
  case build t ps => exact Calm.aff (opBuild_a _ _ _)
  case buildSlice t n ps =>
    simp only [isCalm, Bool.and_eq_true, Bool.not_eq_true'] at h
    simp only [h.1]
    exact opBuildSlice_c _ _ _ _ _ (by simpa [List.all_map] using h.2)
  case load t a => exact Calm.of (opLoad_a _ _ _ _).1 (opLoad_a _ _ _ _).2
  case nilCheck x => cases ρ x <;> first | exact .inr fun _ _ => rfl | exact .inl ⟨_, fun _ _ => rfl⟩
  case binOp op t x y yt =>
    cases isNilC y with
    | true => exact Calm.aff (errK_a _ _ _ _)
    | false =>
    cases isPtr (ρ x) && isPtr (ρ y) with
    | true => exact Calm.aff (opPtrEq_a _ _ _ _ _ _)
    | false => exact Calm.aff (opBin_a _ _ _ _ _)
  case unOp op t x =>
    cases opUn op (ρ x) <;> first | exact .inr fun _ _ => rfl | exact .inl ⟨_, fun _ _ => rfl⟩
  case convert s d x =>
    simp only [isCalm, Bool.not_eq_true'] at h
    simp only [h]
    cases isPtr (ρ x) with
    | true => exact Calm.aff (opPtrConv_a _ _ _ _ _)
    | false => exact opConvert_c _ _ _ _ _
  case slice t x lo hi mx =>
    simp only [isCalm, Bool.and_eq_true, Bool.not_eq_true'] at h
    simp only [h.1]
    have := opSlice_a Γ.P t (ρ x) (lo.map ρ) (hi.map ρ) (mx.map ρ) ob h.2
    exact Calm.of this.1 this.2
  case fieldAddr => exact Calm.aff (opFieldAddr_a _ _ _ _)
  case field => exact Calm.aff (opField_a _ _ _ _)
  case indexAddr => exact Calm.aff (opIndexAddr_a _ _ _ _ _)
  case index => exact Calm.aff (opIndex_a _ _ _ _)
  case extract => exact Calm.aff (opExtract_a _ _)
  case call c =>
    obtain ⟨callee, args, ats⟩ := c
    cases callee <;> try exact .inr fun _ _ => rfl
    case builtin b => exact opBuiltin_c _ _ _ _ _ (by cases b <;> first | rfl | exact Bool.noConfusion (show false = true from h))
    case value g =>
      simp only [isCalm, Bool.and_eq_true] at h
      exact calm_call _ _ _ _ _ _ h.1 (by simpa [List.all_map] using h.2)
theorem get_app {ob : Objs} {j : Nat} {o : Option Obj} (h : ob[j]? = some o) (T : Objs) : (ob ++ T)[j]? = some o := by
  rw [List.getElem?_append_left (List.getElem?_eq_some_iff.1 h).1]; exact h
def K0 : AV → Objs → Option AV := fun v _ => some v
theorem load_mono {P : Program} {t : TypeId} {a : AV} {ob : Objs} {r : AV} (x : Objs) (h : opLoad P t a ob K0 = some r) : opLoad P t a (ob ++ x) K0 = some r := by
  cases a <;> simp only [opLoad] at h ⊢ <;> try exact h
  case ptr j p u =>
    cases hj : ob[j]? with
    | none => rw [hj] at h; cases (Nat.beq u (underId P t)) <;> simp at h
    | some o => rw [get_app hj]; rw [hj] at h; exact h
  case ap j i p u =>
    cases hj : ob[j]? with
    | none => rw [hj] at h; cases (Nat.beq u (underId P t)) <;> simp at h
    | some o => rw [get_app hj]; rw [hj] at h; exact h
theorem indexAddr_mono {P : Program} {t : TypeId} {a b : AV} {ob : Objs} {r : AV} (x : Objs) (h : (opIndexAddr P t a b ob fun v => K0 v ob) = some r) : (opIndexAddr P t a b (ob ++ x) fun v => K0 v (ob ++ x)) = some r := by
  cases a <;> cases b <;> simp only [opIndexAddr] at h ⊢ <;> try exact h
  case ref.i e j k n =>
    cases hd : ds P t <;> rw [hd] at h <;> simp only at h ⊢ <;> try exact h
    cases hj : ob[j]? with
    | none => rw [hj] at h; rename_i e'; cases (Nat.beq e (underId P e')) <;> simp at h
    | some o => rw [get_app hj]; rw [hj] at h; exact h
theorem lenA_mono {ob : Objs} {a : AV} {n : Nat} (x : Objs) (h : lenA ob a = some n) : lenA (ob ++ x) a = some n := by
  cases a <;> simp only [lenA] at h ⊢ <;> try exact h
  case ref e j =>
    cases hj : ob[j]? with
    | none => rw [hj] at h; simp at h
    | some o => rw [get_app hj]; rw [hj] at h; exact h
theorem slice_same {P : Program} {t : TypeId} {x : AV} {lo hi mx : Option AV} (ob ob' : Objs) (hx : noObj x = true) : opSlice P false t x lo hi mx ob K0 = opSlice P false t x lo hi mx ob' K0 := by
  unfold opSlice
  cases x <;> (try exact Bool.noConfusion (show false = true from hx)) <;> cases ds P t <;> (try rfl) <;> cases mx <;> (try rfl) <;> cases hi <;> rfl
mutual
theorem renA_no (g : Nat → Nat) : ∀ a : AV, idsA a = [] → renA g a = a
  | .undef, _ | .i _ _, _ | .b _, _ | .s _, _ | .snil, _ | .sl _ _ _, _ | .d _ _, _ | .vp _ _, _ | .pnil, _ | .err _, _ => by simp only [renA]
  | .ptr _ _ _, h | .ref _ _, h | .ap _ _ _ _, h => by simp [idsA] at h
  | .fn f l, h | .agg f l, h => by simp only [idsA] at h; simp only [renA, renL_no g l h]
  | .tuple l, h => by simp only [idsA] at h; simp only [renA, renL_no g l h]
theorem renL_no (g : Nat → Nat) : ∀ l : List AV, idsL l = [] → renL g l = l
  | [], _ => by simp only [renL]
  | a :: r, h => by
    simp only [idsL, List.append_eq_nil_iff] at h
    simp only [renL, renA_no g a h.1, renL_no g r h.2]
end
/-- a calm call does not feel new objects -/
theorem call_mono {Γ : Ctx} {call : Handle} {t : TypeId} {g : AV} {as : List AV} {ob : Objs} {r : AV} (hg : noCaps g = true) (ha : (as.all noRef) = true) (x : Objs) (h : opCall Γ (calmH call) t g as ob K0 = some r) : opCall Γ (calmH call) t g as (ob ++ x) K0 = some r := by
  unfold opCall at h ⊢
  cases g <;> try exact Bool.noConfusion (show false = true from hg)
  rename_i f caps
  cases caps with
  | cons _ _ => exact Bool.noConfusion (show false = true from hg)
  | nil =>
    have hfc : ∀ ob : Objs, frzC (memF f Γ.refs) (as ++ []) ob = (as, ob) := fun ob => by rw [List.append_nil]; cases memF f Γ.refs <;> simp only [frzC, frzL_noRef ha]
    simp only [hfc] at h ⊢
    cases hr : idsL as with
    | cons a l =>
      obtain ⟨y, hy⟩ := reach_pre (ob := ob) 400 (idsOb ob (idsL as)) (idsL as)
      simp only [hr] at h hy
      rw [hy] at h
      simp only [List.cons_append, calmH_nil] at h
      obtain ⟨_, h⟩ := cond_some h
      exact absurd h (by simp)
    | nil =>
      have h0 : ∀ ob : Objs, reach ob 400 (idsOb ob []) [] = [] := fun _ => rfl
      simp only [hr, h0, List.map_nil] at h ⊢
      obtain ⟨hb, h⟩ := cond_some h
      have hb' : (clsd (ob ++ x) [] [] && Nat.beq (rootsOf Γ.roots f) ([] : List Nat).length) = true := hb
      rw [hb', cond_true]
      simp only [calmH, lNil] at h ⊢
      cases hc : call f (renL (fun j => posN j []) as) [] with
      | none => rw [hc] at h; exact absurd h (by simp)
      | some p =>
        obtain ⟨c, r0, os⟩ := p
        rw [hc] at h
        cases os with
        | cons _ _ => exact absurd h (by simp)
        | nil =>
          cases hri : idsA r0 with
          | cons _ _ => simp only [hri] at h; exact absurd h (by simp)
          | nil =>
            simp only [hri] at h ⊢
            obtain ⟨hs, h⟩ := cond_some h
            have hs' : (sameBoxes (ob ++ x) [] [] && c) = true := hs
            rw [hs', cond_true]
            rw [renA_no _ r0 hri] at h ⊢
            exact h
/-- new objects are not felt -/
theorem calm_mono {Γ : Ctx} {call : Handle} {f : FuncId} {o : Oper} {ρ : Operand → AV} {ob : Objs} {r : AV} (h1 : isCalm Γ f o ρ = true) (h2 : isCalm2 o ρ = true) (x : Objs) (h : stepOp Γ (calmH call) f o ρ ob K0 = some r) : stepOp Γ (calmH call) f o ρ (ob ++ x) K0 = some r := by
  obtain ⟨dst, op, type, pos, after, guard⟩ := o
  cases op <;> simp only [stepOp] at h ⊢ <;> (try exact Bool.noConfusion (show false = true from h2)) <;> (try exact h)
  case load t a => exact load_mono x h
  case buildSlice t n ps =>
    simp only [isCalm, Bool.and_eq_true, Bool.not_eq_true'] at h1
    simp only [h1.1] at h ⊢
    rcases opBuildSlice_c2 Γ.P t n (ps.toList.map fun p => (p.1, ρ p.2)) (by simpa [List.all_map] using h1.2) with ⟨a, ha⟩ | ha
    · rw [ha] at h ⊢; exact h
    · rw [ha] at h; exact absurd h (by simp)
  case slice t a lo hi mx =>
    simp only [isCalm, Bool.and_eq_true, Bool.not_eq_true'] at h1
    simp only [h1.1] at h ⊢
    rw [← slice_same ob (ob ++ x) h1.2]; exact h
  case binOp op t a b yt =>
    simp only [isCalm2, Bool.not_eq_true'] at h2
    rw [h2] at h ⊢
    exact h
  case indexAddr => exact indexAddr_mono x h
  case call c =>
    obtain ⟨callee, args, ats⟩ := c
    cases callee <;> try exact Bool.noConfusion (show false = true from h2)
    case builtin b =>
      cases b <;> try exact Bool.noConfusion (show false = true from h2)
      case len =>
        cases hts : ats.toList with
        | nil => rw [hts] at h; simp [opBuiltin] at h
        | cons t ts =>
          cases has : args.toList.map ρ with
          | nil => rw [hts, has] at h; simp [opBuiltin] at h
          | cons a as =>
            rw [hts, has] at h
            simp only [opBuiltin] at h ⊢
            cases hd : ds Γ.P t <;> rw [hd] at h <;> simp only at h ⊢ <;> try exact h
            cases hn : lenA ob a with
            | none => rw [hn] at h; simp at h
            | some n => rw [lenA_mono x hn]; rw [hn] at h; exact h
    case value g =>
      simp only [isCalm, Bool.and_eq_true] at h1
      exact call_mono h1.1 (by simpa [List.all_map] using h1.2) x h
/-- what a calm operation comes to, with more objects as well -/
theorem calm2_ok (Γ : Ctx) (call : Handle) (f : FuncId) (o : Oper) (ρ : Operand → AV) (ob : Objs) (h : isCalm Γ f o ρ = true) : (∃ a, (∀ (R : Type) (K : AV → Objs → Option R), stepOp Γ (calmH call) f o ρ ob K = K a ob) ∧
    (isCalm2 o ρ = true → ∀ (x : Objs) (R : Type) (K : AV → Objs → Option R), stepOp Γ (calmH call) f o ρ (ob ++ x) K = K a (ob ++ x))) ∨ ∀ (R : Type) (K : AV → Objs → Option R), stepOp Γ (calmH call) f o ρ ob K = none := by
  rcases calm_ok Γ call f o ρ ob h with ⟨a, ha⟩ | hn
  · refine .inl ⟨a, ha, fun h2 x => ?_⟩
    have h0 := calm_mono h h2 x (ha AV K0)
    rcases calm_ok Γ call f o ρ (ob ++ x) h with ⟨b, hb⟩ | hn
    · have := (hb AV K0).symm.trans h0
      have hba : b = a := Option.some.inj this
      subst hba
      exact hb
    · have := (hn AV K0).symm.trans h0
      exact absurd this (by simp)
  · exact .inr hn
/-- what makes an object: one value, the older objects as they were -/
def Mk (ob T : Objs) (F : ∀ R : Type, (AV → Objs → Option R) → Option R) : Prop := (∃ a T', ∀ (R : Type) (K : AV → Objs → Option R), F R K = K a (ob ++ T')) ∨ ∀ (R : Type) (K : AV → Objs → Option R), F R K = none
theorem onNil_mk {ob T T1 T2 : Objs} {a b : AV} (ys : List D) (c : Bool) : Mk ob T fun R K => onNil ys (K a (ob ++ T1)) (bif c then K b (ob ++ T2) else none) := by
  cases ys with
  | nil => exact .inl ⟨a, T1, fun _ _ => rfl⟩
  | cons y r =>
    cases c
    · exact .inr fun _ _ => rfl
    · exact .inl ⟨b, T2, fun _ _ => rfl⟩
theorem append_mk {P : Program} {t : TypeId} {s x : AV} {ob T : Objs} (hs : ∀ e j, s = .ref e j → ob.length ≤ j) : Mk ob T fun R K => opAppend P t s x (ob ++ T) K := by
  unfold opAppend
  cases ds P t <;> try exact .inr fun _ _ => rfl
  rename_i e0
  simp only
  cases fits P e0 (zeroA P depth e0) with
  | false => exact .inr fun _ _ => rfl
  | true =>
    simp only [cond_true]
    cases elems P (underId P e0) (ob ++ T) x with
    | none => exact .inr fun _ _ => rfl
    | some ys =>
      simp only [List.append_assoc]
      cases s <;> try exact .inr fun _ _ => rfl
      case snil => exact onNil_mk (T := T) ys _
      case sl e' c xs =>
        cases c with
        | any => exact .inr fun _ _ => rfl
        | nn => exact .inr fun _ _ => rfl
        | ex => exact onNil_mk (T := T) ys _
        | cl => exact onNil_mk (T := T) ys _
        | nl =>
          cases xs with
          | nil => exact onNil_mk (T := T) ys _
          | cons _ _ => exact .inr fun _ _ => rfl
      case ref e' j =>
        simp only
        have hj := hs e' j rfl
        cases (ob ++ T)[j]? with
        | none => exact .inr fun _ _ => rfl
        | some o => cases o with
          | none => exact .inr fun _ _ => rfl
          | some o => cases o with
            | box => exact .inr fun _ _ => rfl
            | arr e1 xs fz =>
              simp only
              cases Nat.beq e' (underId P e0) && roomB (xs.length + ys.length) (P.bytesOf e0) with
              | false => exact .inr fun _ _ => rfl
              | true => exact .inl ⟨_, T.set (j - ob.length) none ++ [some (.arr e' (xs ++ ys) fz)], fun R K => by simp only [cond_true]; rw [List.set_append_right _ _ hj, List.append_assoc]⟩
/-- what makes an object, or turns one: one value, one list of objects -/
def Mk2 (F : ∀ R : Type, (AV → Objs → Option R) → Option R) : Prop := (∃ a T', ∀ (R : Type) (K : AV → Objs → Option R), F R K = K a T') ∨ ∀ (R : Type) (K : AV → Objs → Option R), F R K = none
theorem Mk.two {ob T : Objs} {F : ∀ R : Type, (AV → Objs → Option R) → Option R} (h : Mk ob T F) : Mk2 F := by
  rcases h with ⟨a, T', h⟩ | h
  · exact .inl ⟨a, _, h⟩
  · exact .inr h
theorem lGet_mk2 {α : Type} (l : List α) (i : Nat) (g : α → Objs) : Mk2 fun R K => lGet l i fun x => K .undef (g x) := by
  unfold lGet
  cases l[i]? with
  | none => exact .inr fun _ _ => rfl
  | some x => exact .inl ⟨_, _, fun _ _ => rfl⟩
theorem store_mk2 (P : Program) (t : TypeId) (a x : AV) (T : Objs) : Mk2 fun R K => opStore P t a x T K := by
  unfold opStore
  cases a <;> try exact .inr fun _ _ => rfl
  case ptr j p u =>
    simp only
    cases Nat.beq u (underId P t) && fits P t x with
    | false => exact .inr fun _ _ => rfl
    | true =>
      simp only [cond_true]
      cases T[j]? with
      | none => exact .inr fun _ _ => rfl
      | some o => cases o with
        | none => exact .inr fun _ _ => rfl
        | some o => cases o with
          | arr => exact .inr fun _ _ => rfl
          | box u' v =>
            simp only
            cases setA P p v x with
            | none => exact .inr fun _ _ => rfl
            | some v' => exact .inl ⟨_, _, fun _ _ => rfl⟩
  case ap j i p u =>
    simp only
    cases Nat.beq u (underId P t) && isTy P t x with
    | false => exact .inr fun _ _ => rfl
    | true =>
      simp only [cond_true]
      cases T[j]? with
      | none => exact .inr fun _ _ => rfl
      | some o => cases o with
        | none => exact .inr fun _ _ => rfl
        | some o => cases o with
          | box => exact .inr fun _ _ => rfl
          | arr e xs fz =>
            cases fz with
            | true => exact .inr fun _ _ => rfl
            | false =>
              cases toD x with
              | none => exact .inr fun _ _ => rfl
              | some y => exact lGet_mk2 _ _ _
theorem store_mk {P : Program} {t : TypeId} {a x : AV} {ob T : Objs} (h : (match a with | .ptr j _ _ => Nat.ble ob.length j | _ => false) = true) : Mk ob T fun R K => opStore P t a x (ob ++ T) K := by
  unfold opStore
  cases a <;> try exact .inr fun _ _ => rfl
  case ptr j p u =>
    have hj : ob.length ≤ j := Nat.le_of_ble_eq_true h
    simp only
    cases Nat.beq u (underId P t) && fits P t x with
    | false => exact .inr fun _ _ => rfl
    | true =>
      simp only [cond_true]
      cases (ob ++ T)[j]? with
      | none => exact .inr fun _ _ => rfl
      | some o => cases o with
        | none => exact .inr fun _ _ => rfl
        | some o => cases o with
          | arr => exact .inr fun _ _ => rfl
          | box u' v =>
            simp only
            cases setA P p v x with
            | none => exact .inr fun _ _ => rfl
            | some v' => exact .inl ⟨_, T.set (j - ob.length) (some (.box u' v')), fun R K => by simp only; rw [List.set_append_right _ _ hj]⟩
  case ap j i p u => exact absurd h (by simp)
theorem mk_new (Γ : Ctx) (call : Handle) (f : FuncId) (o : Oper) (ρ : Operand → AV) (ob T : Objs) (h1 : isMk o = true) (h2 : mkFresh ob.length o ρ = true) : Mk ob T fun R K => stepOp Γ (calmH call) f o ρ (ob ++ T) K := by
  obtain ⟨dst, op, type, pos, after, guard⟩ := o
  cases op <;> (try (cases guard <;> exact Bool.noConfusion (show false = true from h1)))
  case store t a x =>
    cases guard with
    | some _ => exact Bool.noConfusion (show false = true from h1)
    | none =>
      simp only [stepOp]
      simp only [mkFresh] at h2
      exact store_mk h2
  case alloc e =>
    simp only [stepOp]
    cases fits Γ.P e (zeroA Γ.P depth e) with
    | false => exact .inr fun _ _ => rfl
    | true => exact .inl ⟨_, T ++ [some (.box (underId Γ.P e) (zeroA Γ.P depth e))], fun R K => by simp only [cond_true, List.append_assoc]; rfl⟩
  case call c =>
    obtain ⟨callee, args, ats⟩ := c
    cases guard with
    | some _ => exact Bool.noConfusion (show false = true from h1)
    | none =>
    cases callee <;> try exact Bool.noConfusion (show false = true from h1)
    rename_i b
    cases b <;> try exact Bool.noConfusion (show false = true from h1)
    simp only [stepOp]
    simp only [mkFresh] at h2
    cases hts : ats.toList with
    | nil => exact .inr fun _ _ => rfl
    | cons t ts => cases ts with
      | nil => exact .inr fun _ _ => rfl
      | cons t' ts => cases ts with
        | cons _ _ => exact .inr fun _ _ => rfl
        | nil =>
          cases has : args.toList.map ρ with
          | nil => exact .inr fun _ _ => rfl
          | cons s as => cases as with
            | nil => exact .inr fun _ _ => rfl
            | cons x as => cases as with
              | cons _ _ => exact .inr fun _ _ => rfl
              | nil =>
                have hs : ∀ e j, s = .ref e j → ob.length ≤ j := fun e j he => by
                  subst he
                  rw [has] at h2
                  exact Nat.le_of_ble_eq_true h2
                simp only [opBuiltin]
                cases ds Γ.P t' <;> first | exact .inr fun _ _ => rfl | exact append_mk hs
theorem append_mk2 (P : Program) (t : TypeId) (s x : AV) (T : Objs) : Mk2 fun R K => opAppend P t s x T K := by
  unfold opAppend
  cases ds P t <;> try exact .inr fun _ _ => rfl
  rename_i e0
  simp only
  cases fits P e0 (zeroA P depth e0) with
  | false => exact .inr fun _ _ => rfl
  | true =>
    simp only [cond_true]
    cases elems P (underId P e0) T x with
    | none => exact .inr fun _ _ => rfl
    | some ys =>
      have two : ∀ (a b : AV) (T1 T2 : Objs) (c : Bool), Mk2 fun R K => onNil ys (K a T1) (bif c then K b T2 else none) := fun a b T1 T2 c => by
        cases ys with
        | nil => exact .inl ⟨a, T1, fun _ _ => rfl⟩
        | cons y r =>
          cases c
          · exact .inr fun _ _ => rfl
          · exact .inl ⟨b, T2, fun _ _ => rfl⟩
      cases s <;> try exact .inr fun _ _ => rfl
      case snil => exact two _ _ _ _ _
      case sl e' c xs =>
        cases c with
        | any => exact .inr fun _ _ => rfl
        | nn => exact .inr fun _ _ => rfl
        | ex => exact two _ _ _ _ _
        | cl => exact two _ _ _ _ _
        | nl =>
          cases xs with
          | nil => exact two _ _ _ _ _
          | cons _ _ => exact .inr fun _ _ => rfl
      case ref e' j =>
        simp only
        cases T[j]? with
        | none => exact .inr fun _ _ => rfl
        | some o => cases o with
          | none => exact .inr fun _ _ => rfl
          | some o => cases o with
            | box => exact .inr fun _ _ => rfl
            | arr e1 xs fz =>
              simp only
              cases Nat.beq e' (underId P e0) && roomB (xs.length + ys.length) (P.bytesOf e0) with
              | false => exact .inr fun _ _ => rfl
              | true => exact .inl ⟨_, _, fun R K => rfl⟩
theorem mk_ok (Γ : Ctx) (call : Handle) (f : FuncId) (o : Oper) (ρ : Operand → AV) (T : Objs) (h1 : isMk o = true) : Mk2 fun R K => stepOp Γ (calmH call) f o ρ T K := by
  obtain ⟨dst, op, type, pos, after, guard⟩ := o
  cases op <;> (try (cases guard <;> exact Bool.noConfusion (show false = true from h1)))
  case store t a x => exact store_mk2 _ _ _ _ _
  case alloc e =>
    simp only [stepOp]
    cases fits Γ.P e (zeroA Γ.P depth e) with
    | false => exact .inr fun _ _ => rfl
    | true => exact .inl ⟨_, _, fun R K => rfl⟩
  case call c =>
    obtain ⟨callee, args, ats⟩ := c
    cases guard with
    | some _ => exact Bool.noConfusion (show false = true from h1)
    | none =>
    cases callee <;> try exact Bool.noConfusion (show false = true from h1)
    rename_i b
    cases b <;> try exact Bool.noConfusion (show false = true from h1)
    simp only [stepOp]
    cases hts : ats.toList with
    | nil => exact .inr fun _ _ => rfl
    | cons t ts => cases ts with
      | nil => exact .inr fun _ _ => rfl
      | cons t' ts => cases ts with
        | cons _ _ => exact .inr fun _ _ => rfl
        | nil =>
          cases has : args.toList.map ρ with
          | nil => exact .inr fun _ _ => rfl
          | cons s as => cases as with
            | nil => exact .inr fun _ _ => rfl
            | cons x as => cases as with
              | cons _ _ => exact .inr fun _ _ => rfl
              | nil =>
                simp only [opBuiltin]
                cases ds Γ.P t' <;> first | exact .inr fun _ _ => rfl | exact append_mk2 _ _ _ _ _
/-- an operation on temporaries alone does not feel objects -/
theorem pure_any {Γ : Ctx} {call : Handle} {f : FuncId} {o : Oper} {ρ : Operand → AV} {ob : Objs} {a : AV} (h1 : pureK o = true) (h2 : isCalm2 o ρ = true) (h : ∀ (R : Type) (K : AV → Objs → Option R), stepOp Γ (calmH call) f o ρ ob K = K a ob) (T : Objs) :
    ∀ (R : Type) (K : AV → Objs → Option R), stepOp Γ (calmH call) f o ρ T K = K a T := by
  have h0 : stepOp Γ (calmH call) f o ρ ob K0 = some a := h AV K0
  have hc : isCalm Γ f o ρ = true := by
    obtain ⟨dst, op, type, pos, after, guard⟩ := o
    cases op <;> first | rfl | exact Bool.noConfusion (show false = true from h1)
  have h0' : stepOp Γ (calmH call) f o ρ T K0 = some a := by
    rw [← h0]
    obtain ⟨dst, op, type, pos, after, guard⟩ := o
    cases op <;> simp only [stepOp] <;> (try exact Bool.noConfusion (show false = true from h1)) <;> (try rfl)
    case binOp op t a b yt =>
      simp only [isCalm2, Bool.not_eq_true'] at h2
      rw [h2]
      rfl
  intro R K
  rcases calm_ok Γ call f o ρ T hc with ⟨b, hb⟩ | hn
  · have := (hb AV K0).symm.trans h0'
    have hba : b = a := Option.some.inj this
    subst hba
    exact hb R K
  · have := (hn AV K0).symm.trans h0'
    exact absurd this (by simp)
end Go.Proofs.Ytapaenfafjmljaa.V
