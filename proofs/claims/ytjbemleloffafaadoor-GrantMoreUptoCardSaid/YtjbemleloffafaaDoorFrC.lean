/- What it says that data lies in memory; it stays while the cells stay; parts are found and replaced. -/
import Derived.Test.YtjbemleloffafaaDoorFrB
import Derived.Deep.MidRow
namespace Go.Proofs.YtjbemleloffafaaDoor.V
open Go
set_option linter.unusedVariables false
set_option linter.unusedSimpArgs false

/-- cells of the set S -/
def CellsAt (w : World) (S : Addr → Prop) (b o : Nat) (vs : List Value) : Prop :=
  ∀ j v, vs[j]? = some v → w.cell? ⟨b, o + j, none⟩ = some v ∧ S ⟨b, o + j, none⟩
def CapOK : Cp → Option Addr → Nat → Nat → Prop
  | .nl, a, n, cap => a = none ∧ n = 0 ∧ cap = 0
  | .ex, a, n, cap => a.isSome = true ∧ cap = n
  | .any, a, n, cap => n ≤ cap ∧ (a = none → cap = 0)
  | .nn, a, n, cap => n ≤ cap ∧ a.isSome = true

theorem CapOK.nc {c : Cp} {a : Option Addr} {n cap : Nat} (h : CapOK c a n cap) : a = none → cap = 0 := fun hn => by
  subst hn
  cases c <;> simp [CapOK] at h <;> omega
theorem CapOK.le {c : Cp} {a : Option Addr} {n cap : Nat} (h : CapOK c a n cap) : n ≤ cap := by
  cases c <;> simp only [CapOK] at h <;> omega

mutual
def RepT (P : Program) (w : World) (S : Addr → Prop) : D → TypeId → List Value → Prop
  | .int k n, t, vs => und P t = some (.int k) ∧ vs = [.int k n]
  | .bool b, t, vs => und P t = some .bool ∧ vs = [.bool b]
  | .str l, t, vs => und P t = some .string ∧ ∃ s : ByteArray, s.data.toList = l ∧ vs = [.string s]
  | .slice cp xs, t, vs => ∃ e a cap, und P t = some (.slice e) ∧ vs = [.slice a xs.length cap] ∧ CapOK cp a xs.length cap ∧
      (xs = [] ∨ ∃ b o, a = some ⟨b, o, none⟩ ∧ RepRow P w S xs e b o)
  | .agg fs, t, vs => (∃ flds, und P t = some (.struct flds) ∧ RepFs P w S fs (flds.toList.map (·.type)) vs) ∨
      (∃ n e, und P t = some (.array n e) ∧ fs.length = n ∧ RepFs P w S fs (List.replicate n e) vs)
def RepFs (P : Program) (w : World) (S : Addr → Prop) : List D → List TypeId → List Value → Prop
  | [], ts, vs => ts = [] ∧ vs = []
  | d :: r, ts, vs => ∃ t ts' v1 v2, ts = t :: ts' ∧ vs = v1 ++ v2 ∧ RepT P w S d t v1 ∧ RepFs P w S r ts' v2
def RepRow (P : Program) (w : World) (S : Addr → Prop) : List D → TypeId → Nat → Nat → Prop
  | [], _, _, _ => True
  | d :: r, e, b, o => ∃ vs, CellsAt w S b o vs ∧ RepT P w S d e vs ∧ RepRow P w S r e b (o + P.cellsOf e)
end

/-- all of S is as it was -/
def Keeps (w : World) (S : Addr → Prop) (w' : World) (S' : Addr → Prop) : Prop := ∀ a, S a → w'.cell? a = w.cell? a ∧ S' a
theorem Keeps.refl (w : World) (S : Addr → Prop) : Keeps w S w S := fun _ h => ⟨rfl, h⟩
theorem Keeps.trans {w S w' S' w'' S''} (h : Keeps w S w' S') (h' : Keeps w' S' w'' S'') : Keeps w S w'' S'' := fun a ha =>
  have h1 := h a ha; have h2 := h' a h1.2; ⟨h2.1.trans h1.1, h2.2⟩

theorem CellsAt.keep {w S w' S' b o vs} (k : Keeps w S w' S') (h : CellsAt w S b o vs) : CellsAt w' S' b o vs := fun j v hv =>
  have h1 := h j v hv; have h2 := k _ h1.2; ⟨h2.1.trans h1.1, h2.2⟩

section
variable {P : Program} {w w' : World} {S S' : Addr → Prop}
mutual
theorem RepT.keep (k : Keeps w S w' S') : ∀ (d : D) (t : TypeId) (vs : List Value), RepT P w S d t vs → RepT P w' S' d t vs
  | .int _ _, _, _, h => by simpa only [RepT] using h
  | .bool _, _, _, h => by simpa only [RepT] using h
  | .str _, _, _, h => by simpa only [RepT] using h
  | .slice cp xs, t, vs, h => by
    simp only [RepT] at h ⊢
    obtain ⟨e, a, cap, h1, h2, h3, h4⟩ := h
    refine ⟨e, a, cap, h1, h2, h3, h4.imp id ?_⟩
    rintro ⟨b, o, ha, hr⟩
    exact ⟨b, o, ha, RepRow.keep k xs e b o hr⟩
  | .agg fs, t, vs, h => by
    simp only [RepT] at h ⊢
    rcases h with ⟨flds, h1, h2⟩ | ⟨n, e, h1, h2, h3⟩
    · exact .inl ⟨flds, h1, RepFs.keep k fs _ _ h2⟩
    · exact .inr ⟨n, e, h1, h2, RepFs.keep k fs _ _ h3⟩
theorem RepFs.keep (k : Keeps w S w' S') : ∀ (fs : List D) (ts : List TypeId) (vs : List Value), RepFs P w S fs ts vs → RepFs P w' S' fs ts vs
  | [], _, _, h => by simpa only [RepFs] using h
  | d :: r, ts, vs, h => by
    simp only [RepFs] at h ⊢
    obtain ⟨t, ts', v1, v2, h1, h2, h3, h4⟩ := h
    exact ⟨t, ts', v1, v2, h1, h2, RepT.keep k d t v1 h3, RepFs.keep k r ts' v2 h4⟩
theorem RepRow.keep (k : Keeps w S w' S') : ∀ (xs : List D) (e : TypeId) (b o : Nat), RepRow P w S xs e b o → RepRow P w' S' xs e b o
  | [], _, _, _, h => by simp only [RepRow]
  | d :: r, e, b, o, h => by
    simp only [RepRow] at h ⊢
    obtain ⟨vs, h1, h2, h3⟩ := h
    exact ⟨vs, h1.keep k, RepT.keep k d e vs h2, RepRow.keep k r e b _ h3⟩
end

/-! ### the table of types -/
/-- what is asked of the table of types: as the checker of programs asks it -/
def sumCells (P : Program) : List TypeId → Nat
  | [] => 0
  | t :: r => P.cellsOf t + sumCells P r
def offsOk (P : Program) : Nat → List Field → Bool
  | _, [] => true
  | o, f :: r => Nat.beq f.offset o && offsOk P (o + P.cellsOf f.type) r
def tyOk (P : Program) (t : TypeId) : Bool :=
  (match und P t with
  | some (.struct fs) => !P.stoodInHeld t && (fs.toList.all fun f => (und P f.type).isSome) && offsOk P 0 fs.toList && Nat.beq (P.cellsOf t) (sumCells P (fs.toList.map (·.type)))
  | some (.array n e) => (und P e).isSome && Nat.beq (P.cellsOf t) (n * P.cellsOf e)
  | some (.slice e) => (und P e).isSome && Nat.beq (P.cellsOf t) 1
  | some .bool | some (.int _) | some .string | some (.pointer _) | some (.func _ _ _) | some (.map _ _) | some (.interface _) => Nat.beq (P.cellsOf t) 1
  | some (.named _ _) => false
  | _ => true) &&
  (match P.info? t with
  | some { desc := .named _ u, .. } => (und P t).isNone || ((und P u).isSome && (match ((P.info? u).map (·.desc) : Option TypeDesc) with | some (.named _ _) => false | some _ => true | none => false) && Nat.beq (P.cellsOf u) (P.cellsOf t) && Nat.beq (P.bytesOf u) (P.bytesOf t))
  | _ => true)
def tabOk (P : Program) : Bool := (List.range P.types.size).all (tyOk P)

theorem und_lt {t : TypeId} {d : TypeDesc} (h : und P t = some d) : t < P.types.size ∧ P.underlying t = some d := by
  unfold und at h
  cases hb : Nat.blt t P.types.size with
  | true =>
    rw [hb] at h
    refine ⟨by simpa [Nat.blt_eq] using hb, ?_⟩
    simp only [cond_true] at h
    split at h
    · rename_i fs hfs
      cases hc : cutB P t with
      | true => rw [hc] at h; simp at h
      | false => rw [hc] at h; rw [hfs]; exact h
    · exact h
  | false => rw [hb] at h; simp at h
theorem tyOk_of (h : tabOk P = true) (t : TypeId) {d : TypeDesc} (hi : und P t = some d) : tyOk P t = true :=
  List.all_eq_true.1 h t (List.mem_range.2 (und_lt hi).1)
theorem info_of_und {t : TypeId} {d : TypeDesc} (h : und P t = some d) : ∃ i, P.info? t = some i := by
  have h := (und_lt h).2
  unfold Program.underlying at h
  cases hi : P.info? t with
  | none => simp [hi] at h
  | some i => exact ⟨i, rfl⟩
theorem size_of_und {t : TypeId} {d : TypeDesc} (h : und P t = some d) : (P.info? t).map (·.size) = some (P.cellsOf t) := by
  obtain ⟨i, hi⟩ := info_of_und h
  simp [Program.cellsOf, hi]
/-- a type and what lies under it are alike -/
theorem underId_spec (hP : tabOk P = true) {t : TypeId} {d : TypeDesc} (h : und P t = some d) :
    und P (underId P t) = some d ∧ P.cellsOf (underId P t) = P.cellsOf t ∧ P.bytesOf (underId P t) = P.bytesOf t ∧ underId P (underId P t) = underId P t := by
  have hk := tyOk_of hP t h
  obtain ⟨hlt, h'⟩ := und_lt h
  obtain ⟨i, hi⟩ := info_of_und h
  have hun : underId P t = (match i.desc with | .named _ u => u | _ => t) := by
    unfold underId Program.underlyingId
    rw [hi]
    obtain ⟨dd, st, sz, by', hp, al, fa, z, cm, ms⟩ := i
    cases dd <;> rfl
  obtain ⟨dd, st, sz, by', hp, al, fa, z, cm, ms⟩ := i
  by_cases hnm : ∃ s u, dd = .named s u
  · obtain ⟨s, u, rfl⟩ := hnm
    simp only [tyOk, hi, Bool.and_eq_true, h, Option.isNone_some, Bool.false_or] at hk
    obtain ⟨hk1, ⟨⟨hk0, hk2⟩, hk3⟩, hk4⟩ := hk
    obtain ⟨d', hlu⟩ := Option.isSome_iff_exists.1 hk0
    simp only at hun
    rw [hun]
    have hin : (P.info? u).map (·.desc) = some d := by
      simp only [Program.underlying, hi] at h'; exact h'
    obtain ⟨j, hj, hjd⟩ := Option.map_eq_some_iff.1 hin
    obtain ⟨dj, _, _, _, _, _, _, _, _, _⟩ := j
    simp only at hjd
    subst hjd
    have hu : P.underlying u = some dj ∧ underId P u = u := by
      simp only [hj, Option.map_some] at hk2
      unfold underId Program.underlyingId Program.underlying
      rw [hj]
      cases dj <;> simp_all
    have hd : d' = dj := Option.some.inj ((und_lt hlu).2.symm.trans hu.1)
    rw [hd] at hlu
    exact ⟨hlu, Nat.eq_of_beq_eq_true hk3, Nat.eq_of_beq_eq_true hk4, hu.2⟩
  · have : underId P t = t := by
      rw [hun]; cases dd <;> first | rfl | exact absurd ⟨_, _, rfl⟩ hnm
    rw [this, this]
    exact ⟨h, rfl, rfl, rfl⟩
theorem ds_some {t : TypeId} {d : TypeDesc} (h : ds P t = d) (hd : d ≠ .invalid) : und P t = some d := by
  unfold ds at h
  cases hu : und P t with
  | none => simp [hu] at h; exact absurd h.symm hd
  | some d' => simp [hu] at h; rw [h]

theorem cells_int (hP : tabOk P = true) {t : TypeId} {k : IntKind} (h : und P t = some (.int k)) : P.cellsOf t = 1 := by
  have := tyOk_of hP t h; simp only [tyOk, h, Bool.and_eq_true] at this; exact Nat.eq_of_beq_eq_true this.1
theorem cells_bool (hP : tabOk P = true) {t : TypeId} (h : und P t = some .bool) : P.cellsOf t = 1 := by
  have := tyOk_of hP t h; simp only [tyOk, h, Bool.and_eq_true] at this; exact Nat.eq_of_beq_eq_true this.1
theorem cells_string (hP : tabOk P = true) {t : TypeId} (h : und P t = some .string) : P.cellsOf t = 1 := by
  have := tyOk_of hP t h; simp only [tyOk, h, Bool.and_eq_true] at this; exact Nat.eq_of_beq_eq_true this.1
theorem cells_slice (hP : tabOk P = true) {t e : TypeId} (h : und P t = some (.slice e)) : P.cellsOf t = 1 := by
  have := tyOk_of hP t h; simp only [tyOk, h, Bool.and_eq_true] at this; exact Nat.eq_of_beq_eq_true this.1.2
theorem elem_slice (hP : tabOk P = true) {t e : TypeId} (h : und P t = some (.slice e)) : ∃ d, und P e = some d := by
  have := tyOk_of hP t h; simp only [tyOk, h, Bool.and_eq_true] at this; exact Option.isSome_iff_exists.1 this.1.1
theorem cells_pointer (hP : tabOk P = true) {t e : TypeId} (h : und P t = some (.pointer e)) : P.cellsOf t = 1 := by
  have := tyOk_of hP t h; simp only [tyOk, h, Bool.and_eq_true] at this; exact Nat.eq_of_beq_eq_true this.1
theorem cells_func (hP : tabOk P = true) {t : TypeId} {a b c} (h : und P t = some (.func a b c)) : P.cellsOf t = 1 := by
  have := tyOk_of hP t h; simp only [tyOk, h, Bool.and_eq_true] at this; exact Nat.eq_of_beq_eq_true this.1
theorem cells_array (hP : tabOk P = true) {t e : TypeId} {n : Nat} (h : und P t = some (.array n e)) : P.cellsOf t = n * P.cellsOf e := by
  have := tyOk_of hP t h; simp only [tyOk, h, Bool.and_eq_true] at this; exact Nat.eq_of_beq_eq_true this.1.2
theorem elem_array (hP : tabOk P = true) {t e : TypeId} {n : Nat} (h : und P t = some (.array n e)) : ∃ d, und P e = some d := by
  have := tyOk_of hP t h; simp only [tyOk, h, Bool.and_eq_true] at this; exact Option.isSome_iff_exists.1 this.1.1
theorem field_und (hP : tabOk P = true) {t : TypeId} {fs : Array Field} {f : Field} {i : Nat} (h : und P t = some (.struct fs)) (hf : fs[i]? = some f) : ∃ d, und P f.type = some d := by
  have := tyOk_of hP t h; simp only [tyOk, h, Bool.and_eq_true, List.all_eq_true] at this
  exact Option.isSome_iff_exists.1 (this.1.1.1.2 f (by have hl : fs.toList[i]? = some f := (by simpa using hf); exact List.mem_of_getElem? hl))
theorem cells_struct (hP : tabOk P = true) {t : TypeId} {fs : Array Field} (h : und P t = some (.struct fs)) :
    offsOk P 0 fs.toList = true ∧ P.cellsOf t = sumCells P (fs.toList.map (·.type)) := by
  have := tyOk_of hP t h; simp only [tyOk, h, Bool.and_eq_true] at this; exact ⟨this.1.1.2, Nat.eq_of_beq_eq_true this.1.2⟩
theorem sumCells_replicate (n : Nat) (e : TypeId) : sumCells P (List.replicate n e) = n * P.cellsOf e := by
  induction n with
  | zero => simp [sumCells]
  | succ n ih => simp only [List.replicate_succ, sumCells, ih, Nat.succ_mul]; omega

/-! ### sizes; one cell each -/
mutual
theorem RepT.size (hP : tabOk P = true) : ∀ (d : D) (t : TypeId) (vs : List Value), RepT P w S d t vs → vs.length = P.cellsOf t
  | .int _ _, t, vs, h => by simp only [RepT] at h; rw [h.2, cells_int hP h.1]; rfl
  | .bool _, t, vs, h => by simp only [RepT] at h; rw [h.2, cells_bool hP h.1]; rfl
  | .str _, t, vs, h => by simp only [RepT] at h; obtain ⟨h1, s, _, h2⟩ := h; rw [h2, cells_string hP h1]; rfl
  | .slice cp xs, t, vs, h => by simp only [RepT] at h; obtain ⟨e, a, cap, h1, h2, _⟩ := h; rw [h2, cells_slice hP h1]; rfl
  | .agg fs, t, vs, h => by
    simp only [RepT] at h
    rcases h with ⟨flds, h1, h2⟩ | ⟨n, e, h1, h2, h3⟩
    · rw [RepFs.size hP fs _ _ h2, (cells_struct hP h1).2]
    · rw [RepFs.size hP fs _ _ h3, cells_array hP h1, sumCells_replicate]
theorem RepFs.size (hP : tabOk P = true) : ∀ (fs : List D) (ts : List TypeId) (vs : List Value), RepFs P w S fs ts vs → vs.length = sumCells P ts
  | [], ts, vs, h => by simp only [RepFs] at h; rw [h.1, h.2]; rfl
  | d :: r, ts, vs, h => by
    simp only [RepFs] at h
    obtain ⟨t, ts', v1, v2, rfl, rfl, h3, h4⟩ := h
    simp only [List.length_append, sumCells, RepT.size hP d t v1 h3, RepFs.size hP r ts' v2 h4]
end
mutual
theorem RepT.one : ∀ (d : D) (t : TypeId) (vs : List Value), RepT P w S d t vs → ∀ v ∈ vs, v.oneCell' = true
  | .int _ _, t, vs, h => by simp only [RepT] at h; rw [h.2]; simp [Value.oneCell']
  | .bool _, t, vs, h => by simp only [RepT] at h; rw [h.2]; simp [Value.oneCell']
  | .str _, t, vs, h => by simp only [RepT] at h; obtain ⟨h1, s, _, h2⟩ := h; rw [h2]; simp [Value.oneCell']
  | .slice cp xs, t, vs, h => by simp only [RepT] at h; obtain ⟨e, a, cap, h1, h2, _⟩ := h; rw [h2]; simp [Value.oneCell']
  | .agg fs, t, vs, h => by
    simp only [RepT] at h
    rcases h with ⟨flds, h1, h2⟩ | ⟨n, e, h1, h2, h3⟩
    · exact RepFs.one fs _ _ h2
    · exact RepFs.one fs _ _ h3
theorem RepFs.one : ∀ (fs : List D) (ts : List TypeId) (vs : List Value), RepFs P w S fs ts vs → ∀ v ∈ vs, v.oneCell' = true
  | [], ts, vs, h => by simp only [RepFs] at h; rw [h.2]; simp
  | d :: r, ts, vs, h => by
    simp only [RepFs] at h
    obtain ⟨t, ts', v1, v2, rfl, rfl, h3, h4⟩ := h
    intro v hv
    rcases List.mem_append.1 hv with hv | hv
    · exact RepT.one d t v1 h3 v hv
    · exact RepFs.one r ts' v2 h4 v hv
end

/-- data of a type is data of the type under it -/
theorem RepT.ty {d : D} {t t' : TypeId} {vs : List Value} (hu : und P t' = und P t) (h : RepT P w S d t vs) : RepT P w S d t' vs := by
  cases d <;> simpa only [RepT, hu] using h
theorem RepT.has {d : D} {t : TypeId} {vs : List Value} (h : RepT P w S d t vs) : ∃ dd, und P t = some dd := by
  cases d <;> simp only [RepT] at h
  · exact ⟨_, h.1⟩
  · exact ⟨_, h.1⟩
  · exact ⟨_, h.1⟩
  · obtain ⟨e, a, cap, h1, _⟩ := h; exact ⟨_, h1⟩
  · rcases h with ⟨f, h1, _⟩ | ⟨n, e, h1, _⟩ <;> exact ⟨_, h1⟩
theorem RepT.under (hP : tabOk P = true) {d : D} {t : TypeId} {vs : List Value} (h : RepT P w S d t vs) : RepT P w S d (underId P t) vs := by
  obtain ⟨dd, hd⟩ := h.has
  exact h.ty ((underId_spec hP hd).1.trans hd.symm)

/-! ### parts -/
theorem RepFs.len : ∀ {fs : List D} {ts : List TypeId} {vs : List Value}, RepFs P w S fs ts vs → fs.length = ts.length
  | [], ts, vs, h => by simp only [RepFs] at h; simp [h.1]
  | d :: r, ts, vs, h => by
    simp only [RepFs] at h
    obtain ⟨t, ts', v1, v2, rfl, rfl, h3, h4⟩ := h
    simp [RepFs.len h4]
/-- component number i: its cells -/
theorem RepFs.get (hP : tabOk P = true) : ∀ {fs : List D} {ts : List TypeId} {vs : List Value} (i : Nat) {d : D} {t : TypeId}, RepFs P w S fs ts vs → fs[i]? = some d → ts[i]? = some t →
    ∃ a v b, vs = a ++ v ++ b ∧ a.length = sumCells P (ts.take i) ∧ RepT P w S d t v ∧
      ∀ d' v', RepT P w S d' t v' → RepFs P w S (fs.set i d') ts (a ++ v' ++ b)
  | [], ts, vs, i, d, t, h, hf, ht => by simp at hf
  | x :: r, ts, vs, 0, d, t, h, hf, ht => by
    simp only [RepFs] at h
    obtain ⟨t0, ts', v1, v2, rfl, rfl, h3, h4⟩ := h
    simp at hf ht
    subst hf; subst ht
    refine ⟨[], v1, v2, rfl, rfl, h3, fun d' v' h' => ?_⟩
    simp only [List.set_cons_zero, RepFs, List.nil_append]
    exact ⟨t0, ts', v', v2, rfl, rfl, h', h4⟩
  | x :: r, ts, vs, i + 1, d, t, h, hf, ht => by
    simp only [RepFs] at h
    obtain ⟨t0, ts', v1, v2, rfl, rfl, h3, h4⟩ := h
    simp at hf ht
    obtain ⟨a, v, b, rfl, ha, hv, hs⟩ := RepFs.get hP i h4 hf ht
    refine ⟨v1 ++ a, v, b, by simp, by simp only [List.length_append, List.take_succ_cons, sumCells, ha, RepT.size hP _ _ _ h3], hv, fun d' v' h' => ?_⟩
    simp only [List.set_cons_succ, RepFs]
    exact ⟨t0, ts', v1, a ++ v' ++ b, rfl, by simp, h3, hs d' v' h'⟩
theorem RepRow.get : ∀ {xs : List D} {e : TypeId} {b o : Nat} (i : Nat) {d : D}, RepRow P w S xs e b o → xs[i]? = some d →
    ∃ vs, CellsAt w S b (o + i * P.cellsOf e) vs ∧ RepT P w S d e vs
  | [], e, b, o, i, d, h, hx => by simp at hx
  | x :: r, e, b, o, 0, d, h, hx => by
    simp only [RepRow] at h
    obtain ⟨vs, h1, h2, _⟩ := h
    simp at hx; subst hx
    exact ⟨vs, by simpa using h1, h2⟩
  | x :: r, e, b, o, i + 1, d, h, hx => by
    simp only [RepRow] at h
    obtain ⟨vs, h1, h2, h3⟩ := h
    simp at hx
    obtain ⟨vs', h4, h5⟩ := RepRow.get i h3 hx
    exact ⟨vs', by rw [show o + (i + 1) * P.cellsOf e = o + P.cellsOf e + i * P.cellsOf e by rw [Nat.succ_mul]; omega]; exact h4, h5⟩
theorem RepRow.drop : ∀ {xs : List D} {e : TypeId} {b o : Nat} (i : Nat), RepRow P w S xs e b o → RepRow P w S (xs.drop i) e b (o + i * P.cellsOf e)
  | xs, e, b, o, 0, h => by simpa using h
  | [], e, b, o, i + 1, h => by simp only [List.drop_nil, RepRow]
  | x :: r, e, b, o, i + 1, h => by
    simp only [RepRow] at h
    obtain ⟨vs, h1, h2, h3⟩ := h
    have := RepRow.drop i h3
    rw [show o + (i + 1) * P.cellsOf e = o + P.cellsOf e + i * P.cellsOf e by rw [Nat.succ_mul]; omega]
    exact this
theorem RepRow.take : ∀ {xs : List D} {e : TypeId} {b o : Nat} (i : Nat), RepRow P w S xs e b o → RepRow P w S (xs.take i) e b o
  | xs, e, b, o, 0, h => by simp only [List.take_zero, RepRow]
  | [], e, b, o, i + 1, h => by simp only [List.take_nil, RepRow]
  | x :: r, e, b, o, i + 1, h => by
    simp only [RepRow, List.take_succ_cons] at h ⊢
    obtain ⟨vs, h1, h2, h3⟩ := h
    exact ⟨vs, h1, h2, RepRow.take i h3⟩
theorem RepRow.append : ∀ {xs ys : List D} {e : TypeId} {b o : Nat}, RepRow P w S xs e b o → RepRow P w S ys e b (o + xs.length * P.cellsOf e) → RepRow P w S (xs ++ ys) e b o
  | [], ys, e, b, o, h, h' => by simpa using h'
  | x :: r, ys, e, b, o, h, h' => by
    simp only [RepRow, List.cons_append] at h ⊢
    obtain ⟨vs, h1, h2, h3⟩ := h
    refine ⟨vs, h1, h2, RepRow.append h3 ?_⟩
    rw [show o + P.cellsOf e + r.length * P.cellsOf e = o + (x :: r).length * P.cellsOf e by simp [Nat.succ_mul]; omega]
    exact h'
theorem RepRow.ty {xs : List D} : ∀ {e e' : TypeId} {b o : Nat}, und P e' = und P e → P.cellsOf e' = P.cellsOf e → RepRow P w S xs e b o → RepRow P w S xs e' b o := by
  induction xs with
  | nil => intros; simp only [RepRow]
  | cons x r ih =>
    intro e e' b o hu hc h
    simp only [RepRow] at h ⊢
    obtain ⟨vs, h1, h2, h3⟩ := h
    exact ⟨vs, h1, h2.ty hu, by rw [hc]; exact ih hu hc h3⟩
end
end Go.Proofs.YtjbemleloffafaaDoor.V
