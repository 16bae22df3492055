/- Operations. Part five: zero values, literals, new rows. -/
import Derived.Test.YtjbemleloffafaaDoorFrM
namespace Go.Proofs.YtjbemleloffafaaDoor.V
open Go
set_option linter.unusedVariables false
set_option linter.unusedSimpArgs false

/-! ### zero values: each is looked at once -/
mutual
def chkD (P : Program) : D → TypeId → List Value → Bool
  | .int k n, t, vs => match ds P t, vs with
    | .int k', [.int k'' n'] => kEq k' k && kEq k'' k && n' == n
    | _, _ => false
  | .bool b, t, vs => match ds P t, vs with
    | .bool, [.bool b'] => b' == b
    | _, _ => false
  | .str l, t, vs => match ds P t, vs with
    | .string, [.string s] => s.data.toList == l
    | _, _ => false
  | .slice c xs, t, vs => match c, xs, ds P t, vs with
    | .nl, [], .slice _, [.slice none 0 0] => true
    | _, _, _, _ => false
  | .agg fs, t, vs => match ds P t with
    | .struct flds => chkFs P fs (flds.toList.map (·.type)) vs
    | .array n e => Nat.beq fs.length n && chkFs P fs (List.replicate n e) vs
    | _ => false
def chkFs (P : Program) : List D → List TypeId → List Value → Bool
  | [], [], [] => true
  | d :: r, t :: ts, vs => chkD P d t (vs.take (P.cellsOf t)) && chkFs P r ts (vs.drop (P.cellsOf t))
  | _, _, _ => false
end
mutual
def chkA (P : Program) : AV → TypeId → List Value → Bool
  | .agg u l, t, vs => match ds P t with
    | .struct flds => Nat.beq u (underId P t) && chkAg P l (flds.toList.map (·.type)) vs
    | _ => false
  | .pnil, t, vs => match ds P t, vs with
    | .pointer _, [.pointer none] => true
    | _, _ => false
  | .i k n, t, vs => chkD P (.int k n) t vs
  | .b x, t, vs => chkD P (.bool x) t vs
  | .s l, t, vs => chkD P (.str l) t vs
  | .sl e c xs, t, vs => Nat.beq e (elemU P t) && chkD P (.slice c xs) t vs
  | .d u (.agg fs), t, vs => Nat.beq u (underId P t) && chkD P (.agg fs) t vs
  | _, _, _ => false
def chkAg (P : Program) : List AV → List TypeId → List Value → Bool
  | [], [], [] => true
  | a :: r, t :: ts, vs => chkA P a t (vs.take (P.cellsOf t)) && chkAg P r ts (vs.drop (P.cellsOf t))
  | _, _, _ => false
end
def zeroTy (P : Program) (t : TypeId) : Bool := match P.info? t with
  | some i => match i.zero with
    | some z => !fits P t (zeroA P depth t) || (chkA P (zeroA P depth t) t z.cells.toList && (z.oneCell' || match z with | .agg _ => true | _ => false))
    | none => !fits P t (zeroA P depth t)
  | none => true
def zeroOk (P : Program) : Bool := (List.range P.types.size).all (zeroTy P)

section
variable {P : Program} {w : World} {S : Addr → Prop} {σ : Loc} {ob : Objs}
mutual
theorem chkD_ok : ∀ (d : D) (t : TypeId) (vs : List Value), chkD P d t vs = true → RepT P w S d t vs
  | .int k n, t, vs, h => by
    unfold chkD at h
    split at h
    · rename_i k' k'' n' hd
      simp only [Bool.and_eq_true, kEq_iff, beq_iff_eq] at h
      obtain ⟨⟨rfl, rfl⟩, rfl⟩ := h
      simp only [RepT]; exact ⟨ds_some hd (by simp), trivial⟩
    · exact absurd h (by simp)
  | .bool b, t, vs, h => by
    unfold chkD at h
    split at h
    · rename_i b' hd
      simp only [beq_iff_eq] at h
      subst h
      simp only [RepT]; exact ⟨ds_some hd (by simp), trivial⟩
    · exact absurd h (by simp)
  | .str l, t, vs, h => by
    unfold chkD at h
    split at h
    · rename_i s hd
      simp only [RepT]; exact ⟨ds_some hd (by simp), s, by simpa using h, rfl⟩
    · exact absurd h (by simp)
  | .slice c xs, t, vs, h => by
    unfold chkD at h
    split at h
    · rename_i e hd
      simp only [RepT]
      exact ⟨_, none, 0, ds_some hd (by simp), rfl, ⟨rfl, rfl, rfl⟩, .inl trivial⟩
    · exact absurd h (by simp)
  | .agg fs, t, vs, h => by
    unfold chkD at h
    simp only [RepT]
    split at h
    · rename_i flds hd
      exact .inl ⟨_, ds_some hd (by simp), chkFs_ok fs _ vs h⟩
    · rename_i n e hd
      simp only [Bool.and_eq_true] at h
      exact .inr ⟨_, _, ds_some hd (by simp), beq_id h.1, chkFs_ok fs _ vs h.2⟩
    · exact absurd h (by simp)
theorem chkFs_ok : ∀ (fs : List D) (ts : List TypeId) (vs : List Value), chkFs P fs ts vs = true → RepFs P w S fs ts vs
  | [], ts, vs, h => by
    cases ts <;> cases vs <;> simp [chkFs] at h
    simp only [RepFs]; exact ⟨trivial, trivial⟩
  | d :: r, ts, vs, h => by
    cases ts with
    | nil => simp [chkFs] at h
    | cons t ts =>
      simp only [chkFs, Bool.and_eq_true] at h
      simp only [RepFs]
      exact ⟨t, ts, _, _, rfl, (List.take_append_drop (P.cellsOf t) vs).symm, chkD_ok d t _ h.1, chkFs_ok r ts _ h.2⟩
end
mutual
theorem chkA_ok (hP : tabOk P = true) : ∀ (a : AV) (t : TypeId) (vs : List Value), chkA P a t vs = true → BV P w S σ ob t a vs
  | .agg u l, t, vs, h => by
    unfold chkA at h
    split at h
    · rename_i flds hd
      simp only [Bool.and_eq_true] at h
      obtain rfl := beq_id h.1
      have hs := ds_some hd (by simp)
      refine ⟨by simp [fits, hd], .agg vs.toArray, by simp [Value.cells], ?_⟩
      simp only [RepA]
      exact ⟨vs, flds, rfl, (underId_spec hP hs).1, chkAg_ok hP l _ vs h.2⟩
    · exact absurd h (by simp)
  | .pnil, t, vs, h => by
    unfold chkA at h
    split at h
    · rename_i e hd
      exact ⟨by simp [fits, hd], .pointer none, rfl, by simp only [RepA]⟩
    · exact absurd h (by simp)
  | .i k n, t, vs, h => by
    have : chkD P (.int k n) t vs = true := by simpa only [chkA] using h
    exact BV.ofD hP (chkD_ok (w := w) (S := S) _ t vs this)
  | .b x, t, vs, h => by
    have : chkD P (.bool x) t vs = true := by simpa only [chkA] using h
    exact BV.ofD hP (chkD_ok (w := w) (S := S) _ t vs this)
  | .s l, t, vs, h => by
    have : chkD P (.str l) t vs = true := by simpa only [chkA] using h
    exact BV.ofD hP (chkD_ok (w := w) (S := S) _ t vs this)
  | .sl e c xs, t, vs, h => by
    simp only [chkA, Bool.and_eq_true] at h
    obtain rfl := beq_id h.1
    exact BV.ofD hP (chkD_ok (w := w) (S := S) _ t vs h.2)
  | .d u (.agg fs), t, vs, h => by
    simp only [chkA, Bool.and_eq_true] at h
    obtain rfl := beq_id h.1
    exact BV.ofD hP (chkD_ok (w := w) (S := S) _ t vs h.2)
  | .d u (.int _ _), t, vs, h => by simp [chkA] at h
  | .d u (.bool _), t, vs, h => by simp [chkA] at h
  | .d u (.str _), t, vs, h => by simp [chkA] at h
  | .d u (.slice _ _), t, vs, h => by simp [chkA] at h
  | .undef, t, vs, h => by simp [chkA] at h
  | .snil, t, vs, h => by simp [chkA] at h
  | .vp _ _, t, vs, h => by simp [chkA] at h
  | .ptr _ _ _, t, vs, h => by simp [chkA] at h
  | .ref _ _, t, vs, h => by simp [chkA] at h
  | .ap _ _ _ _, t, vs, h => by simp [chkA] at h
  | .fn _ _, t, vs, h => by simp [chkA] at h
  | .tuple _, t, vs, h => by simp [chkA] at h
theorem chkAg_ok (hP : tabOk P = true) : ∀ (l : List AV) (ts : List TypeId) (vs : List Value), chkAg P l ts vs = true → RepAg P w S σ ob l ts vs
  | [], ts, vs, h => by
    cases ts <;> cases vs <;> simp [chkAg] at h
    simp only [RepAg]; exact ⟨trivial, trivial⟩
  | a :: r, ts, vs, h => by
    cases ts with
    | nil => simp [chkAg] at h
    | cons t ts =>
      simp only [chkAg, Bool.and_eq_true] at h
      simp only [RepAg]
      obtain ⟨h1, v, h2, h3⟩ := chkA_ok hP a t _ h.1
      exact ⟨t, ts, v, _, rfl, by rw [h2]; exact (List.take_append_drop (P.cellsOf t) vs).symm, (fits_size hP a t v h1 h3).1, h1, h3, chkAg_ok hP r ts _ h.2⟩
end
theorem zero_ok (hP : tabOk P = true) (hZ : zeroOk P = true) {t : TypeId} (hf : fits P t (zeroA P depth t) = true) :
    ∃ z, (zeroValue t).run P w = .ok z w ∧ BV P w S σ ob t (zeroA P depth t) z.cells.toList := by
  obtain ⟨d, hd⟩ := fits_has hf
  have h := List.all_eq_true.1 hZ t (List.mem_range.2 (und_lt hd).1)
  obtain ⟨i, hi⟩ := info_of_und hd
  simp only [zeroTy, hi] at h
  cases hz : i.zero with
  | none => rw [hz] at h; simp [hf] at h
  | some z =>
    rw [hz] at h
    simp only [hf, Bool.not_true, Bool.false_or, Bool.and_eq_true] at h
    exact ⟨z, by simp [zeroValue, typeInfo, hi, hz], chkA_ok hP _ t _ h.1⟩
end

section
variable {Γ : Ctx} {w0 : World} {S0 : Addr → Prop} {X : XB} {w w' : World} {S S' : Addr → Prop} {σ σ' : Loc} {ob ob' : Objs} {R : Type}

theorem alloc_ok (hP : tabOk Γ.P = true) (hZ : zeroOk Γ.P = true) (hM : MemOK Γ w0 S0 X w S σ ob) {e : TypeId} (hf : fits Γ.P e (zeroA Γ.P depth e) = true) :
    ∃ w' σ' cv, (Instr.alloc e true (.tuple #[])).run Γ.P w = .ok cv w' ∧ Trans Γ w0 S0 X w S σ ob w' S σ' (ob ++ [some (.box (underId Γ.P e) (zeroA Γ.P depth e))]) ∧
      RepA Γ.P w' S σ' (ob ++ [some (.box (underId Γ.P e) (zeroA Γ.P depth e))]) (.ptr ob.length [] (underId Γ.P e)) cv := by
  obtain ⟨z, hz, _, v, hv, hr⟩ := zero_ok (w := w) (S := S) (σ := σ) (ob := ob) hP hZ hf
  obtain ⟨w', σ', h1, h2, h3⟩ := newVar_ok hP hM (el := e) hf hr
  refine ⟨w', σ', _, ?_, h2, h3⟩
  have hc : z.cells = v.cells := by apply Array.ext'; exact hv.symm
  have h1 : (newVar e z).run Γ.P w = .ok ⟨w.heap.size, 0, none⟩ w' := by
    unfold newVar at h1 ⊢; rw [hc]; exact h1
  simp [Instr.alloc, hz, h1]
theorem box_ok (hP : tabOk Γ.P = true) (hM : MemOK Γ w0 S0 X w S σ ob) {e : TypeId} {x : AV} {v : Value} (hf : fits Γ.P e x = true) (hx : RepA Γ.P w S σ ob x v) :
    ∃ w' σ' cv, (Instr.box e v).run Γ.P w = .ok cv w' ∧ Trans Γ w0 S0 X w S σ ob w' S σ' (ob ++ [some (.box (underId Γ.P e) x)]) ∧
      RepA Γ.P w' S σ' (ob ++ [some (.box (underId Γ.P e) x)]) (.ptr ob.length [] (underId Γ.P e)) cv := by
  obtain ⟨w', σ', h1, h2, h3⟩ := newVar_ok hP hM (el := e) hf hx
  exact ⟨w', σ', _, by simp [Instr.box, h1], h2, h3⟩

/-! ### literals -/
theorem fold_put : ∀ (vs : List Value) (k off : Nat) (cs : Array Value), off + k + vs.length ≤ cs.size →
    ((vs.zipIdx k).foldl (fun cs x => cs.setIfInBounds (off + x.2) x.1) cs).toList = putCs cs.toList (off + k) vs
  | [], k, off, cs, h => by simp [putCs]
  | v :: r, k, off, cs, h => by
    simp only [List.length_cons] at h
    simp only [List.zipIdx_cons, List.foldl_cons]
    rw [fold_put r (k + 1) off _ (by simp; omega)]
    unfold putCs
    have e1 : ((cs.setIfInBounds (off + k) v).toList).take (off + (k + 1)) = cs.toList.take (off + k) ++ [v] := by
      rw [Array.toList_setIfInBounds, show off + (k + 1) = off + k + 1 by omega, List.take_set, List.take_succ_eq_append_getElem (by simp; omega)]
      rw [List.set_append_right _ _ (by simp; omega)]
      simp [Nat.min_eq_left (show off + k ≤ cs.size by omega)]
    have e2 : ((cs.setIfInBounds (off + k) v).toList).drop (off + (k + 1) + r.length) = cs.toList.drop (off + (k + 1) + r.length) := by
      rw [Array.toList_setIfInBounds, List.drop_set_of_lt (by omega)]
    rw [e1, e2]
    simp only [List.append_assoc, List.singleton_append, List.length_cons]
    rw [show off + k + (r.length + 1) = off + (k + 1) + r.length by omega]
theorem fill_step {place : Nat → Option (Nat × Nat)} {cells : Array Value} {i off size : Nat} {v : Value} {rest : List (Nat × Value)} (hp : place i = some (off, size)) (hs : v.cells.size = size) (hl : off + size ≤ cells.size) :
    Instr.fill place cells ((i, v) :: rest) = Instr.fill place (putCs cells.toList off v.cells.toList).toArray rest := by
  have hcond : ¬ (v.cells.size ≠ size ∨ off + v.cells.size > cells.size) := by omega
  simp only [Instr.fill, hp]
  rw [if_neg (by simpa using hcond)]
  congr 1
  apply Array.ext'
  rw [← Array.foldl_toList, Array.toList_zipIdx]
  have := fold_put v.cells.toList 0 off cells (by simp; omega)
  simpa using this
theorem fillA_ok (hP : tabOk Γ.P = true) {t : TypeId} {d : TypeDesc} (hd : und Γ.P t = some d) {place : Nat → Option (Nat × Nat)}
    (hpl : ∀ i ft, partT Γ.P t i = some ft → ∃ off, offP Γ.P t [i] = some (off, underId Γ.P ft) ∧ place i = some (off, Γ.P.cellsOf ft)) :
    ∀ (ps : List (Nat × AV)) (cps : List (Nat × Value)) (a a' : AV) (vs : List Value), BV Γ.P w S σ ob t a vs → fillA Γ.P t a ps = some a' →
      cps.length = ps.length → (∀ (k : Nat) (p : Nat × AV), ps[k]? = some p → ∃ v, cps[k]? = some (p.1, v) ∧ RepA Γ.P w S σ ob p.2 v) →
      ∃ vs', Instr.fill place vs.toArray cps = some vs'.toArray ∧ BV Γ.P w S σ ob t a' vs'
  | [], cps, a, a', vs, hb, h, hl, hc => by
    cases cps with
    | cons _ _ => simp at hl
    | nil => simp only [fillA, Option.some.injEq] at h; subst h; exact ⟨vs, by simp [Instr.fill], hb⟩
  | (i, x) :: r, cps, a, a', vs, hb, h, hl, hc => by
    cases cps with
    | nil => simp at hl
    | cons cp cr =>
      simp only [fillA] at h
      split at h
      · rename_i ft a1 hft hset
        obtain ⟨hfx, h⟩ := cond_some h
        obtain ⟨v, hv, hx⟩ := hc 0 (i, x) rfl
        simp at hv
        subst hv
        obtain ⟨off, ho, hp⟩ := hpl i ft hft
        obtain ⟨A, V, B, rfl, hA, hVl, hnew⟩ := setA_ok hP [i] a t vs off _ x a1 v.cells.toList hb ho hset (BV.under hP ⟨hfx, v, rfl, hx⟩)
        have hsz := (fits_size hP x ft v hfx hx).1
        have hlen : off + Γ.P.cellsOf ft ≤ (A ++ V ++ B).toArray.size := by simp [hA] at hVl ⊢; omega
        rw [fill_step hp hsz hlen]
        have he : putCs (A ++ V ++ B).toArray.toList off v.cells.toList = A ++ v.cells.toList ++ B := by
          simpa using putCs_mid hA hVl
        rw [he]
        exact fillA_ok hP hd hpl r cr a1 a' _ hnew h (by simpa using hl) (fun k p hk => by have := hc (k + 1) p (by simpa using hk); simpa using this)
      · exact absurd h (by simp)
end
end Go.Proofs.YtjbemleloffafaaDoor.V
