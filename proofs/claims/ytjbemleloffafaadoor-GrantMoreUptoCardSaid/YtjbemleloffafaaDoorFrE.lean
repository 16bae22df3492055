/- Operations on values: parts, comparisons, arithmetic: what the abstract machine says, the model does. -/
import Derived.Test.YtjbemleloffafaaDoorFrD
import Derived.Laws.StructEq
import Derived.ChangeKeysEq
namespace Go.Proofs.YtjbemleloffafaaDoor.V
open Go
set_option linter.unusedVariables false
set_option linter.unusedSimpArgs false

theorem kEq_iff {a b : IntKind} : kEq a b = true ↔ a = b := by cases a <;> cases b <;> simp [kEq]

section
variable {P : Program} {w w' : World} {S S' : Addr → Prop} {σ σ' : Loc} {ob ob' : Objs} {R : Type}

/-- the value whose cells these are, of a type -/
def valOf (P : Program) (t : TypeId) (vs : List Value) : Value := match ds P t with
  | .struct _ | .array _ _ => .agg vs.toArray
  | _ => vs.headD undef

theorem isAgg_run (hP : tabOk P = true) {t : TypeId} {d : TypeDesc} (h : und P t = some d) :
    (isAgg t).run P w = .ok d.isRow w := by
  unfold isAgg
  rw [Sem.run_bind, run_underlying (und_lt h).2 w]
  cases d <;> rfl
theorem sizeOf_run {t : TypeId} {d : TypeDesc} (h : und P t = some d) : (sizeOf t).run P w = .ok (P.cellsOf t) w := by
  obtain ⟨i, hi⟩ := info_of_und h
  exact run_sizeOf w hi
theorem ds_of {t : TypeId} {d : TypeDesc} (h : und P t = some d) : ds P t = d := by simp [ds, h]

/-- data's value: alone, or an aggregate -/
theorem valOf_cells (hP : tabOk P = true) {x : D} {t : TypeId} {vs : List Value} (h : RepT P w S x t vs) : (valOf P t vs).cells.toList = vs := by
  have hs := RepT.size hP _ _ _ h
  cases x with
  | int k n => simp only [RepT] at h; obtain ⟨h1, rfl⟩ := h; simp [valOf, ds_of h1, Value.cells]
  | bool k => simp only [RepT] at h; obtain ⟨h1, rfl⟩ := h; simp [valOf, ds_of h1, Value.cells]
  | str k => simp only [RepT] at h; obtain ⟨h1, s, _, rfl⟩ := h; simp [valOf, ds_of h1, Value.cells]
  | slice k xs => simp only [RepT] at h; obtain ⟨e, a, cap, h1, rfl, _⟩ := h; simp [valOf, ds_of h1, Value.cells]
  | agg fs =>
    simp only [RepT] at h
    rcases h with ⟨f, h1, _⟩ | ⟨n, e, h1, _⟩ <;> simp [valOf, ds_of h1, Value.cells]
/-- what 'fromD' says of data -/
theorem fromD_ok (hP : tabOk P = true) {x : D} {t : TypeId} {vs : List Value} (h : RepT P w S x t vs) : RepA P w S σ ob (fromD P t x) (valOf P t vs) := by
  cases x with
  | int k n => simp only [RepT] at h; obtain ⟨h1, rfl⟩ := h; simp [fromD, RepA, valOf, ds_of h1]
  | bool k => simp only [RepT] at h; obtain ⟨h1, rfl⟩ := h; simp [fromD, RepA, valOf, ds_of h1]
  | str k => simp only [RepT] at h; obtain ⟨h1, s, h2, rfl⟩ := h; simp [fromD, RepA, valOf, ds_of h1]; exact h2
  | slice k xs =>
    simp only [RepT] at h
    obtain ⟨e, a, cap, h1, rfl, h3, h4⟩ := h
    simp only [fromD, RepA, valOf, ds_of h1]
    refine ⟨a, cap, rfl, h3, h4.imp id fun ⟨b, o, ha, hr⟩ => ⟨b, o, ha, ?_⟩⟩
    have he : elemU P t = underId P e := by simp [elemU, ds_of h1]
    rw [he]
    obtain ⟨dd, hd⟩ := elem_slice hP h1
    obtain ⟨u1, u2, _, _⟩ := underId_spec hP hd
    exact hr.ty (u1.trans hd.symm) u2
  | agg fs =>
    have h0 := h.under hP
    simp only [RepT] at h
    simp only [fromD, RepA]
    rcases h with ⟨f, h1, _⟩ | ⟨n, e, h1, _⟩ <;> exact ⟨vs, by simp [valOf, ds_of h1], h0, _, rfl⟩

/-- 'part' takes the cells of a component -/
theorem part_run (hP : tabOk P = true) {x : D} {t : TypeId} {l a v b : List Value} {off : Nat} (h : RepT P w S x t v) (hl : l = a ++ v ++ b) (ho : a.length = off) :
    (part t l.toArray off).run P w' = .ok (valOf P t v) w' := by
  subst hl; subst ho
  have hs := RepT.size hP _ _ _ h
  obtain ⟨d, hd⟩ := h.has
  unfold part
  rw [Sem.run_bind, isAgg_run hP hd]
  simp only [Result.andThen_ok]
  have hex : (a ++ v ++ b).toArray.extract a.length (a.length + P.cellsOf t) = v.toArray := by
    apply Array.ext'
    simp [← hs]
  cases x with
  | int k n => simp only [RepT] at h; obtain ⟨h1, rfl⟩ := h; rw [hd] at h1; cases h1; simp [valOf, ds_of hd]
  | bool k => simp only [RepT] at h; obtain ⟨h1, rfl⟩ := h; rw [hd] at h1; cases h1; simp [valOf, ds_of hd]
  | str k => simp only [RepT] at h; obtain ⟨h1, s, h2, rfl⟩ := h; rw [hd] at h1; cases h1; simp [valOf, ds_of hd]
  | slice k xs => simp only [RepT] at h; obtain ⟨e, a', cap, h1, rfl, _⟩ := h; rw [hd] at h1; cases h1; simp [valOf, ds_of hd]
  | agg fs =>
    simp only [RepT] at h
    rcases h with ⟨f, h1, _⟩ | ⟨n, e, h1, _⟩ <;>
    · rw [hd] at h1; cases h1
      simp only [if_true, Sem.run_bind, sizeOf_run hd, Result.andThen_ok, Sem.run_pure, hex, valOf, ds_of hd]

/-! ### equality -/
theorem eqFields_run (hP : tabOk P = true) (n d : Nat) (xs ys : List Value)
    (ih : ∀ (x y : D) (t : TypeId) (v u : List Value) (w' : World), cmpTy P n t = true → RepT P w S x t v → RepT P w S y t u → (Op.equalIn d t (valOf P t v) (valOf P t u)).run P w' = .ok (eqD x y) w') :
    ∀ (fs : List Field) (as bs : List D) (a0 b0 va vb : List Value) (o : Nat), xs = a0 ++ va → ys = b0 ++ vb → a0.length = o → b0.length = o → offsOk P o fs = true →
      (fs.all fun f => f.name != "_" && cmpTy P n f.type) = true →
      RepFs P w S as (fs.map (·.type)) va → RepFs P w S bs (fs.map (·.type)) vb → (Op.eqFields d xs.toArray ys.toArray fs).run P w' = .ok (eqDs as bs) w'
  | [], as, bs, a0, b0, va, vb, o, hx, hy, ha, hb, ho, hc, h1, h2 => by
    cases as <;> cases bs <;> simp [RepFs] at h1 h2
    simp [Op.eqFields, eqDs]
  | f :: fs, as, bs, a0, b0, va, vb, o, hx, hy, ha, hb, ho, hc, h1, h2 => by
    simp only [List.all_cons, Bool.and_eq_true] at hc
    simp only [offsOk, Bool.and_eq_true] at ho
    cases as with
    | nil => simp [RepFs] at h1
    | cons x as =>
      cases bs with
      | nil => simp [RepFs] at h2
      | cons y bs =>
        simp only [RepFs, List.map_cons, List.cons.injEq] at h1 h2
        obtain ⟨t, ts', v1, v2, ⟨rfl, rfl⟩, rfl, h3, h4⟩ := h1
        obtain ⟨t', ts'', u1, u2, ⟨rfl, rfl⟩, rfl, h5, h6⟩ := h2
        have hoff : f.offset = o := Nat.eq_of_beq_eq_true ho.1
        have hn : f.name ≠ "_" := by simpa using hc.1.1
        simp only [Op.eqFields, hn, ne_eq, not_false_eq_true, if_true, Sem.run_bind]
        rw [part_run hP h3 (l := xs) (a := a0) (b := v2) (by simp [hx]) (by rw [ha, hoff])]
        simp only [Result.andThen_ok]
        rw [part_run hP h5 (l := ys) (a := b0) (b := u2) (by simp [hy]) (by rw [hb, hoff])]
        simp only [Result.andThen_ok, ih x y f.type v1 u1 w' hc.1.2 h3 h5]
        have s1 := RepT.size hP _ _ _ h3
        have s2 := RepT.size hP _ _ _ h5
        have rest := eqFields_run hP n d xs ys ih fs as bs (a0 ++ v1) (b0 ++ u1) v2 u2 (o + P.cellsOf f.type)
          (by simp [hx]) (by simp [hy]) (by simp [ha, s1]) (by simp [hb, s2]) ho.2 hc.2 h4 h6
        simp only [eqDs]
        cases eqD x y
        · simp
        · simpa using rest
theorem eqItems_run (hP : tabOk P = true) (d : Nat) (e : TypeId) (xs ys : List Value)
    (ih : ∀ (x y : D) (v u : List Value) (w' : World), RepT P w S x e v → RepT P w S y e u → (Op.equalIn d e (valOf P e v) (valOf P e u)).run P w' = .ok (eqD x y) w') :
    ∀ (n k : Nat) (as bs : List D) (a0 b0 va vb : List Value), xs = a0 ++ va → ys = b0 ++ vb → a0.length = k * P.cellsOf e → b0.length = k * P.cellsOf e →
      RepFs P w S as (List.replicate n e) va → RepFs P w S bs (List.replicate n e) vb → (Op.eqItems d e (P.cellsOf e) xs.toArray ys.toArray (List.range' k n)).run P w' = .ok (eqDs as bs) w'
  | 0, k, as, bs, a0, b0, va, vb, hx, hy, ha, hb, h1, h2 => by
    cases as <;> cases bs <;> simp [RepFs] at h1 h2
    simp [Op.eqItems, eqDs]
  | n + 1, k, as, bs, a0, b0, va, vb, hx, hy, ha, hb, h1, h2 => by
    cases as with
    | nil => simp [RepFs] at h1
    | cons x as =>
      cases bs with
      | nil => simp [RepFs] at h2
      | cons y bs =>
        simp only [RepFs, List.replicate_succ, List.cons.injEq] at h1 h2
        obtain ⟨t, ts', v1, v2, ⟨rfl, rfl⟩, rfl, h3, h4⟩ := h1
        obtain ⟨t', ts'', u1, u2, ⟨rfl, rfl⟩, rfl, h5, h6⟩ := h2
        rw [List.range'_succ]
        simp only [Op.eqItems, Sem.run_bind]
        rw [part_run hP h3 (l := xs) (a := a0) (b := v2) (by simp [hx]) ha]
        simp only [Result.andThen_ok]
        rw [part_run hP h5 (l := ys) (a := b0) (b := u2) (by simp [hy]) hb]
        simp only [Result.andThen_ok, ih x y v1 u1 w' h3 h5]
        have s1 := RepT.size hP _ _ _ h3
        have s2 := RepT.size hP _ _ _ h5
        have rest := eqItems_run hP d e xs ys ih n (k + 1) as bs (a0 ++ v1) (b0 ++ u1) v2 u2
          (by simp [hx]) (by simp [hy]) (by simp [ha, s1, Nat.succ_mul]) (by simp [hb, s2, Nat.succ_mul]) h4 h6
        simp only [eqDs]
        cases eqD x y
        · simp
        · simpa using rest
theorem equalIn_run (hP : tabOk P = true) : ∀ (n : Nat) (m : Nat) (x y : D) (t : TypeId) (v u : List Value) (w' : World), cmpTy P n t = true → RepT P w S x t v → RepT P w S y t u →
    (Op.equalIn (n + m) t (valOf P t v) (valOf P t u)).run P w' = .ok (eqD x y) w'
  | 0, m, x, y, t, v, u, w', hc, h1, h2 => by simp [cmpTy] at hc
  | n + 1, m, x, y, t, v, u, w', hc, h1, h2 => by
    rw [show n + 1 + m = (n + m) + 1 by omega]
    cases x with
    | int k a =>
      simp only [RepT] at h1
      obtain ⟨hu, rfl⟩ := h1
      cases y <;> simp only [RepT, hu] at h2 <;> simp at h2
      obtain ⟨rfl, rfl⟩ := h2
      simp only [valOf, ds_of hu, List.headD_cons, eqD]
      exact run_equalIn_int w' _ t _ _ _ _ (und_lt hu).2
    | bool a =>
      simp only [RepT] at h1
      obtain ⟨hu, rfl⟩ := h1
      cases y <;> simp only [RepT, hu] at h2 <;> simp at h2
      subst h2
      simp only [valOf, ds_of hu, List.headD_cons, eqD]
      exact run_equalIn_bool w' _ t _ _ (und_lt hu).2
    | str a =>
      simp only [RepT] at h1
      obtain ⟨hu, s, rfl, rfl⟩ := h1
      cases y <;> simp only [RepT, hu] at h2 <;> simp at h2
      obtain ⟨s2, rfl, rfl⟩ := h2
      simp only [valOf, ds_of hu, List.headD_cons, eqD]
      rw [run_equalIn_string w' _ t _ _ (und_lt hu).2, ByteArray.toList_eq, ByteArray.toList_eq]
    | slice c xs =>
      simp only [RepT] at h1
      obtain ⟨e, a, cap, hu, _⟩ := h1
      simp [cmpTy, ds_of hu] at hc
    | agg fs =>
      simp only [RepT] at h1
      rcases h1 with ⟨f, hu, h3⟩ | ⟨k, e, hu, hk, h3⟩
      · cases y with
        | agg gs =>
          simp only [RepT, hu] at h2
          rcases h2 with ⟨f', hu', h4⟩ | ⟨k, e, hu', hk, h4⟩
          · cases hu'
            simp only [cmpTy, ds_of hu] at hc
            obtain ⟨so, _⟩ := cells_struct hP hu
            have hst : P.stoodInHeld t = false := by
              have := tyOk_of hP t hu; simp only [tyOk, hu, Bool.and_eq_true] at this; simpa using this.1.1.1.1
            have hf : P.fieldsOf t = f := by unfold Program.fieldsOf; rw [(und_lt hu).2]
            simp only [valOf, ds_of hu]
            rw [run_equalIn_struct w' (n + m) t _ _ (by rw [hf]; exact (und_lt hu).2) hst, hf]
            simp only [eqD]
            exact eqFields_run hP n (n + m) v u (fun x y t v u w' => equalIn_run hP n m x y t v u w') f.toList fs gs [] [] v u 0 rfl rfl rfl rfl so hc h3 h4
          · cases hu'
        | _ => simp [RepT, hu] at h2
      · cases y with
        | agg gs =>
          simp only [RepT, hu] at h2
          rcases h2 with ⟨f', hu', h4⟩ | ⟨k', e', hu', hk', h4⟩
          · cases hu'
          · cases hu'
            simp only [cmpTy, ds_of hu] at hc
            simp only [valOf, ds_of hu]
            simp only [eqD]
            simp only [Bool.and_eq_true] at hc
            have hk0 : k ≠ 0 := by intro h; subst h; simp at hc
            have he : ∃ dd, und P e = some dd := by
              cases fs with
              | nil => simp at hk; omega
              | cons d r =>
                simp only [RepFs] at h3
                obtain ⟨t', ts', v1, v2, h5, _, h6, _⟩ := h3
                have : t' = e := by
                  cases k with
                  | zero => omega
                  | succ k => simp [List.replicate_succ] at h5; exact h5.1.symm
                subst this; exact h6.has
            obtain ⟨dd, hdd⟩ := he
            obtain ⟨i, hi⟩ := info_of_und hdd
            rw [run_equalIn_array w' (n + m) _ _ (und_lt hu).2 hi, List.range_eq_range']
            exact eqItems_run hP (n + m) e v u (fun x y v u w' => equalIn_run hP n m x y e v u w' hc.2) k 0 fs gs [] [] v u rfl rfl (by simp) (by simp) h3 h4
        | _ => simp [RepT, hu] at h2
end
end Go.Proofs.YtjbemleloffafaaDoor.V
