/- FrC, FrD: texts of this claim, put together in build order by program. -/
import Derived.Test.YtbdekjlnnbjicaaBa
import Derived.Deep.MidRow
/- What it says that data lies in memory; it stays while the cells stay; parts are found and replaced. -/
namespace Go.Proofs.Ytbdekjlnnbjicaa.V
open Go
set_option linter.unusedVariables false
set_option linter.unusedSimpArgs false

/-- cells of the set S -/
def CellsAt (w : World) (S : Addr → Prop) (b o : Nat) (vs : List Value) : Prop :=
  ∀ j v, vs[j]? = some v → w.cell? ⟨b, o + j, none⟩ = some v ∧ S ⟨b, o + j, none⟩
def CapOK : Cp → Option Addr → Nat → Nat → Prop
  | .nl, a, n, cap => a = none ∧ n = 0 ∧ cap = 0
  | .ex, a, n, cap => a.isSome = true ∧ cap = n
  | .any, a, n, cap => n ≤ cap ∧ (a = none → cap = 0)
  | .nn, a, n, cap => n ≤ cap ∧ a.isSome = true
  | .cl, a, n, cap => cap = n ∧ (a = none → cap = 0)

theorem CapOK.nc {c : Cp} {a : Option Addr} {n cap : Nat} (h : CapOK c a n cap) : a = none → cap = 0 := fun hn => by
  subst hn
  cases c <;> simp [CapOK] at h <;> omega
theorem CapOK.le {c : Cp} {a : Option Addr} {n cap : Nat} (h : CapOK c a n cap) : n ≤ cap := by
  cases c <;> simp only [CapOK] at h <;> omega

mutual
def RepT (P : Program) (w : World) (S : Addr → Prop) : D → TypeId → List Value → Prop
  | .int k n, t, vs => und P t = some (.int k) ∧ vs = [.int k n]
  | .bool b, t, vs => und P t = some .bool ∧ vs = [.bool b]
  | .str l, t, vs => und P t = some .string ∧ ∃ s : ByteArray, s.data.toList = l ∧ vs = [.string s]
  | .slice cp xs, t, vs => ∃ e a cap, und P t = some (.slice e) ∧ vs = [.slice a xs.length cap] ∧ CapOK cp a xs.length cap ∧
      (xs = [] ∨ ∃ b o, a = some ⟨b, o, none⟩ ∧ RepRow P w S xs e b o)
  | .agg fs, t, vs => (∃ flds, und P t = some (.struct flds) ∧ RepFs P w S fs (flds.toList.map (·.type)) vs) ∨
      (∃ n e, und P t = some (.array n e) ∧ fs.length = n ∧ RepFs P w S fs (List.replicate n e) vs)
def RepFs (P : Program) (w : World) (S : Addr → Prop) : List D → List TypeId → List Value → Prop
  | [], ts, vs => ts = [] ∧ vs = []
  | d :: r, ts, vs => ∃ t ts' v1 v2, ts = t :: ts' ∧ vs = v1 ++ v2 ∧ RepT P w S d t v1 ∧ RepFs P w S r ts' v2
def RepRow (P : Program) (w : World) (S : Addr → Prop) : List D → TypeId → Nat → Nat → Prop
  | [], _, _, _ => True
  | d :: r, e, b, o => ∃ vs, CellsAt w S b o vs ∧ RepT P w S d e vs ∧ RepRow P w S r e b (o + P.cellsOf e)
end

/-- all of S is as it was -/
def Keeps (w : World) (S : Addr → Prop) (w' : World) (S' : Addr → Prop) : Prop := ∀ a, S a → w'.cell? a = w.cell? a ∧ S' a
theorem Keeps.refl (w : World) (S : Addr → Prop) : Keeps w S w S := fun _ h => ⟨rfl, h⟩
theorem Keeps.trans {w S w' S' w'' S''} (h : Keeps w S w' S') (h' : Keeps w' S' w'' S'') : Keeps w S w'' S'' := fun a ha =>
  have h1 := h a ha; have h2 := h' a h1.2; ⟨h2.1.trans h1.1, h2.2⟩

theorem CellsAt.keep {w S w' S' b o vs} (k : Keeps w S w' S') (h : CellsAt w S b o vs) : CellsAt w' S' b o vs := fun j v hv =>
  have h1 := h j v hv; have h2 := k _ h1.2; ⟨h2.1.trans h1.1, h2.2⟩

section
variable {P : Program} {w w' : World} {S S' : Addr → Prop}
mutual
theorem RepT.keep (k : Keeps w S w' S') : ∀ (d : D) (t : TypeId) (vs : List Value), RepT P w S d t vs → RepT P w' S' d t vs
  | .int _ _, _, _, h => by simpa only [RepT] using h
  | .bool _, _, _, h => by simpa only [RepT] using h
  | .str _, _, _, h => by simpa only [RepT] using h
  | .slice cp xs, t, vs, h => by
    simp only [RepT] at h ⊢
    obtain ⟨e, a, cap, h1, h2, h3, h4⟩ := h
    refine ⟨e, a, cap, h1, h2, h3, h4.imp id ?_⟩
    rintro ⟨b, o, ha, hr⟩
    exact ⟨b, o, ha, RepRow.keep k xs e b o hr⟩
  | .agg fs, t, vs, h => by
    simp only [RepT] at h ⊢
    rcases h with ⟨flds, h1, h2⟩ | ⟨n, e, h1, h2, h3⟩
    · exact .inl ⟨flds, h1, RepFs.keep k fs _ _ h2⟩
    · exact .inr ⟨n, e, h1, h2, RepFs.keep k fs _ _ h3⟩
theorem RepFs.keep (k : Keeps w S w' S') : ∀ (fs : List D) (ts : List TypeId) (vs : List Value), RepFs P w S fs ts vs → RepFs P w' S' fs ts vs
  | [], _, _, h => by simpa only [RepFs] using h
  | d :: r, ts, vs, h => by
    simp only [RepFs] at h ⊢
    obtain ⟨t, ts', v1, v2, h1, h2, h3, h4⟩ := h
    exact ⟨t, ts', v1, v2, h1, h2, RepT.keep k d t v1 h3, RepFs.keep k r ts' v2 h4⟩
theorem RepRow.keep (k : Keeps w S w' S') : ∀ (xs : List D) (e : TypeId) (b o : Nat), RepRow P w S xs e b o → RepRow P w' S' xs e b o
  | [], _, _, _, h => by simp only [RepRow]
  | d :: r, e, b, o, h => by
    simp only [RepRow] at h ⊢
    obtain ⟨vs, h1, h2, h3⟩ := h
    exact ⟨vs, h1.keep k, RepT.keep k d e vs h2, RepRow.keep k r e b _ h3⟩
end

/-! ### the table of types -/
/-- what is asked of the table of types: as the checker of programs asks it -/
def sumCells (P : Program) : List TypeId → Nat
  | [] => 0
  | t :: r => P.cellsOf t + sumCells P r
def offsOk (P : Program) : Nat → List Field → Bool
  | _, [] => true
  | o, f :: r => Nat.beq f.offset o && offsOk P (o + P.cellsOf f.type) r
def tyOk (P : Program) (t : TypeId) : Bool :=
  (match und P t with
  | some (.struct fs) => !P.stoodInHeld t && (fs.toList.all fun f => (und P f.type).isSome) && offsOk P 0 fs.toList && Nat.beq (P.cellsOf t) (sumCells P (fs.toList.map (·.type)))
  | some (.array n e) => (und P e).isSome && Nat.beq (P.cellsOf t) (n * P.cellsOf e)
  | some (.slice e) => (und P e).isSome && Nat.beq (P.cellsOf t) 1
  | some .bool | some (.int _) | some .string | some (.pointer _) | some (.func _ _ _) | some (.map _ _) | some (.interface _) => Nat.beq (P.cellsOf t) 1
  | some (.named _ _) => false
  | _ => true) &&
  (match P.info? t with
  | some { desc := .named _ u, .. } => (und P t).isNone || ((und P u).isSome && (match ((P.info? u).map (·.desc) : Option TypeDesc) with | some (.named _ _) => false | some _ => true | none => false) && Nat.beq (P.cellsOf u) (P.cellsOf t) && Nat.beq (P.bytesOf u) (P.bytesOf t))
  | _ => true)
def tabOk (P : Program) : Bool := (List.range P.types.size).all (tyOk P)

theorem und_lt {t : TypeId} {d : TypeDesc} (h : und P t = some d) : t < P.types.size ∧ P.underlying t = some d := by
  unfold und at h
  cases hb : Nat.blt t P.types.size with
  | true =>
    rw [hb] at h
    refine ⟨by simpa [Nat.blt_eq] using hb, ?_⟩
    simp only [cond_true] at h
    split at h
    · rename_i fs hfs
      cases hc : cutB P t with
      | true => rw [hc] at h; simp at h
      | false => rw [hc] at h; rw [hfs]; exact h
    · exact h
  | false => rw [hb] at h; simp at h
theorem tyOk_of (h : tabOk P = true) (t : TypeId) {d : TypeDesc} (hi : und P t = some d) : tyOk P t = true :=
  List.all_eq_true.1 h t (List.mem_range.2 (und_lt hi).1)
theorem info_of_und {t : TypeId} {d : TypeDesc} (h : und P t = some d) : ∃ i, P.info? t = some i := by
  have h := (und_lt h).2
  unfold Program.underlying at h
  cases hi : P.info? t with
  | none => simp [hi] at h
  | some i => exact ⟨i, rfl⟩
theorem size_of_und {t : TypeId} {d : TypeDesc} (h : und P t = some d) : (P.info? t).map (·.size) = some (P.cellsOf t) := by
  obtain ⟨i, hi⟩ := info_of_und h
  simp [Program.cellsOf, hi]
/-- a type and what lies under it are alike -/
theorem underId_spec (hP : tabOk P = true) {t : TypeId} {d : TypeDesc} (h : und P t = some d) :
    und P (underId P t) = some d ∧ P.cellsOf (underId P t) = P.cellsOf t ∧ P.bytesOf (underId P t) = P.bytesOf t ∧ underId P (underId P t) = underId P t := by
  have hk := tyOk_of hP t h
  obtain ⟨hlt, h'⟩ := und_lt h
  obtain ⟨i, hi⟩ := info_of_und h
  have hun : underId P t = (match i.desc with | .named _ u => u | _ => t) := by
    unfold underId Program.underlyingId
    rw [hi]
    obtain ⟨dd, st, sz, by', hp, al, fa, z, cm, ms⟩ := i
    cases dd <;> rfl
  obtain ⟨dd, st, sz, by', hp, al, fa, z, cm, ms⟩ := i
  by_cases hnm : ∃ s u, dd = .named s u
  · obtain ⟨s, u, rfl⟩ := hnm
    simp only [tyOk, hi, Bool.and_eq_true, h, Option.isNone_some, Bool.false_or] at hk
    obtain ⟨hk1, ⟨⟨hk0, hk2⟩, hk3⟩, hk4⟩ := hk
    obtain ⟨d', hlu⟩ := Option.isSome_iff_exists.1 hk0
    simp only at hun
    rw [hun]
    have hin : (P.info? u).map (·.desc) = some d := by
      simp only [Program.underlying, hi] at h'; exact h'
    obtain ⟨j, hj, hjd⟩ := Option.map_eq_some_iff.1 hin
    obtain ⟨dj, _, _, _, _, _, _, _, _, _⟩ := j
    simp only at hjd
    subst hjd
    have hu : P.underlying u = some dj ∧ underId P u = u := by
      simp only [hj, Option.map_some] at hk2
      unfold underId Program.underlyingId Program.underlying
      rw [hj]
      cases dj <;> simp_all
    have hd : d' = dj := Option.some.inj ((und_lt hlu).2.symm.trans hu.1)
    rw [hd] at hlu
    exact ⟨hlu, Nat.eq_of_beq_eq_true hk3, Nat.eq_of_beq_eq_true hk4, hu.2⟩
  · have : underId P t = t := by
      rw [hun]; cases dd <;> first | rfl | exact absurd ⟨_, _, rfl⟩ hnm
    rw [this, this]
    exact ⟨h, rfl, rfl, rfl⟩
theorem ds_some {t : TypeId} {d : TypeDesc} (h : ds P t = d) (hd : d ≠ .invalid) : und P t = some d := by
  unfold ds at h
  cases hu : und P t with
  | none => simp [hu] at h; exact absurd h.symm hd
  | some d' => simp [hu] at h; rw [h]

theorem cells_int (hP : tabOk P = true) {t : TypeId} {k : IntKind} (h : und P t = some (.int k)) : P.cellsOf t = 1 := by
  have := tyOk_of hP t h; simp only [tyOk, h, Bool.and_eq_true] at this; exact Nat.eq_of_beq_eq_true this.1
theorem cells_bool (hP : tabOk P = true) {t : TypeId} (h : und P t = some .bool) : P.cellsOf t = 1 := by
  have := tyOk_of hP t h; simp only [tyOk, h, Bool.and_eq_true] at this; exact Nat.eq_of_beq_eq_true this.1
theorem cells_string (hP : tabOk P = true) {t : TypeId} (h : und P t = some .string) : P.cellsOf t = 1 := by
  have := tyOk_of hP t h; simp only [tyOk, h, Bool.and_eq_true] at this; exact Nat.eq_of_beq_eq_true this.1
theorem cells_slice (hP : tabOk P = true) {t e : TypeId} (h : und P t = some (.slice e)) : P.cellsOf t = 1 := by
  have := tyOk_of hP t h; simp only [tyOk, h, Bool.and_eq_true] at this; exact Nat.eq_of_beq_eq_true this.1.2
theorem elem_slice (hP : tabOk P = true) {t e : TypeId} (h : und P t = some (.slice e)) : ∃ d, und P e = some d := by
  have := tyOk_of hP t h; simp only [tyOk, h, Bool.and_eq_true] at this; exact Option.isSome_iff_exists.1 this.1.1
theorem cells_pointer (hP : tabOk P = true) {t e : TypeId} (h : und P t = some (.pointer e)) : P.cellsOf t = 1 := by
  have := tyOk_of hP t h; simp only [tyOk, h, Bool.and_eq_true] at this; exact Nat.eq_of_beq_eq_true this.1
theorem cells_iface (hP : tabOk P = true) {t : TypeId} {a} (h : und P t = some (.interface a)) : P.cellsOf t = 1 := by
  have := tyOk_of hP t h; simp only [tyOk, h, Bool.and_eq_true] at this; exact Nat.eq_of_beq_eq_true this.1
theorem cells_func (hP : tabOk P = true) {t : TypeId} {a b c} (h : und P t = some (.func a b c)) : P.cellsOf t = 1 := by
  have := tyOk_of hP t h; simp only [tyOk, h, Bool.and_eq_true] at this; exact Nat.eq_of_beq_eq_true this.1
theorem cells_array (hP : tabOk P = true) {t e : TypeId} {n : Nat} (h : und P t = some (.array n e)) : P.cellsOf t = n * P.cellsOf e := by
  have := tyOk_of hP t h; simp only [tyOk, h, Bool.and_eq_true] at this; exact Nat.eq_of_beq_eq_true this.1.2
theorem elem_array (hP : tabOk P = true) {t e : TypeId} {n : Nat} (h : und P t = some (.array n e)) : ∃ d, und P e = some d := by
  have := tyOk_of hP t h; simp only [tyOk, h, Bool.and_eq_true] at this; exact Option.isSome_iff_exists.1 this.1.1
theorem field_und (hP : tabOk P = true) {t : TypeId} {fs : Array Field} {f : Field} {i : Nat} (h : und P t = some (.struct fs)) (hf : fs[i]? = some f) : ∃ d, und P f.type = some d := by
  have := tyOk_of hP t h; simp only [tyOk, h, Bool.and_eq_true, List.all_eq_true] at this
  exact Option.isSome_iff_exists.1 (this.1.1.1.2 f (by have hl : fs.toList[i]? = some f := (by simpa using hf); exact List.mem_of_getElem? hl))
theorem cells_struct (hP : tabOk P = true) {t : TypeId} {fs : Array Field} (h : und P t = some (.struct fs)) :
    offsOk P 0 fs.toList = true ∧ P.cellsOf t = sumCells P (fs.toList.map (·.type)) := by
  have := tyOk_of hP t h; simp only [tyOk, h, Bool.and_eq_true] at this; exact ⟨this.1.1.2, Nat.eq_of_beq_eq_true this.1.2⟩
theorem sumCells_replicate (n : Nat) (e : TypeId) : sumCells P (List.replicate n e) = n * P.cellsOf e := by
  induction n with
  | zero => simp [sumCells]
  | succ n ih => simp only [List.replicate_succ, sumCells, ih, Nat.succ_mul]; omega

/-! ### sizes; one cell each -/
mutual
theorem RepT.size (hP : tabOk P = true) : ∀ (d : D) (t : TypeId) (vs : List Value), RepT P w S d t vs → vs.length = P.cellsOf t
  | .int _ _, t, vs, h => by simp only [RepT] at h; rw [h.2, cells_int hP h.1]; rfl
  | .bool _, t, vs, h => by simp only [RepT] at h; rw [h.2, cells_bool hP h.1]; rfl
  | .str _, t, vs, h => by simp only [RepT] at h; obtain ⟨h1, s, _, h2⟩ := h; rw [h2, cells_string hP h1]; rfl
  | .slice cp xs, t, vs, h => by simp only [RepT] at h; obtain ⟨e, a, cap, h1, h2, _⟩ := h; rw [h2, cells_slice hP h1]; rfl
  | .agg fs, t, vs, h => by
    simp only [RepT] at h
    rcases h with ⟨flds, h1, h2⟩ | ⟨n, e, h1, h2, h3⟩
    · rw [RepFs.size hP fs _ _ h2, (cells_struct hP h1).2]
    · rw [RepFs.size hP fs _ _ h3, cells_array hP h1, sumCells_replicate]
theorem RepFs.size (hP : tabOk P = true) : ∀ (fs : List D) (ts : List TypeId) (vs : List Value), RepFs P w S fs ts vs → vs.length = sumCells P ts
  | [], ts, vs, h => by simp only [RepFs] at h; rw [h.1, h.2]; rfl
  | d :: r, ts, vs, h => by
    simp only [RepFs] at h
    obtain ⟨t, ts', v1, v2, rfl, rfl, h3, h4⟩ := h
    simp only [List.length_append, sumCells, RepT.size hP d t v1 h3, RepFs.size hP r ts' v2 h4]
end
mutual
theorem RepT.one : ∀ (d : D) (t : TypeId) (vs : List Value), RepT P w S d t vs → ∀ v ∈ vs, v.oneCell' = true
  | .int _ _, t, vs, h => by simp only [RepT] at h; rw [h.2]; simp [Value.oneCell']
  | .bool _, t, vs, h => by simp only [RepT] at h; rw [h.2]; simp [Value.oneCell']
  | .str _, t, vs, h => by simp only [RepT] at h; obtain ⟨h1, s, _, h2⟩ := h; rw [h2]; simp [Value.oneCell']
  | .slice cp xs, t, vs, h => by simp only [RepT] at h; obtain ⟨e, a, cap, h1, h2, _⟩ := h; rw [h2]; simp [Value.oneCell']
  | .agg fs, t, vs, h => by
    simp only [RepT] at h
    rcases h with ⟨flds, h1, h2⟩ | ⟨n, e, h1, h2, h3⟩
    · exact RepFs.one fs _ _ h2
    · exact RepFs.one fs _ _ h3
theorem RepFs.one : ∀ (fs : List D) (ts : List TypeId) (vs : List Value), RepFs P w S fs ts vs → ∀ v ∈ vs, v.oneCell' = true
  | [], ts, vs, h => by simp only [RepFs] at h; rw [h.2]; simp
  | d :: r, ts, vs, h => by
    simp only [RepFs] at h
    obtain ⟨t, ts', v1, v2, rfl, rfl, h3, h4⟩ := h
    intro v hv
    rcases List.mem_append.1 hv with hv | hv
    · exact RepT.one d t v1 h3 v hv
    · exact RepFs.one r ts' v2 h4 v hv
end

/-- data of a type is data of the type under it -/
theorem RepT.ty {d : D} {t t' : TypeId} {vs : List Value} (hu : und P t' = und P t) (h : RepT P w S d t vs) : RepT P w S d t' vs := by
  cases d <;> simpa only [RepT, hu] using h
theorem RepT.has {d : D} {t : TypeId} {vs : List Value} (h : RepT P w S d t vs) : ∃ dd, und P t = some dd := by
  cases d <;> simp only [RepT] at h
  · exact ⟨_, h.1⟩
  · exact ⟨_, h.1⟩
  · exact ⟨_, h.1⟩
  · obtain ⟨e, a, cap, h1, _⟩ := h; exact ⟨_, h1⟩
  · rcases h with ⟨f, h1, _⟩ | ⟨n, e, h1, _⟩ <;> exact ⟨_, h1⟩
theorem RepT.under (hP : tabOk P = true) {d : D} {t : TypeId} {vs : List Value} (h : RepT P w S d t vs) : RepT P w S d (underId P t) vs := by
  obtain ⟨dd, hd⟩ := h.has
  exact h.ty ((underId_spec hP hd).1.trans hd.symm)

/-! ### parts -/
theorem RepFs.len : ∀ {fs : List D} {ts : List TypeId} {vs : List Value}, RepFs P w S fs ts vs → fs.length = ts.length
  | [], ts, vs, h => by simp only [RepFs] at h; simp [h.1]
  | d :: r, ts, vs, h => by
    simp only [RepFs] at h
    obtain ⟨t, ts', v1, v2, rfl, rfl, h3, h4⟩ := h
    simp [RepFs.len h4]
/-- component number i: its cells -/
theorem RepFs.get (hP : tabOk P = true) : ∀ {fs : List D} {ts : List TypeId} {vs : List Value} (i : Nat) {d : D} {t : TypeId}, RepFs P w S fs ts vs → fs[i]? = some d → ts[i]? = some t →
    ∃ a v b, vs = a ++ v ++ b ∧ a.length = sumCells P (ts.take i) ∧ RepT P w S d t v ∧
      ∀ d' v', RepT P w S d' t v' → RepFs P w S (fs.set i d') ts (a ++ v' ++ b)
  | [], ts, vs, i, d, t, h, hf, ht => by simp at hf
  | x :: r, ts, vs, 0, d, t, h, hf, ht => by
    simp only [RepFs] at h
    obtain ⟨t0, ts', v1, v2, rfl, rfl, h3, h4⟩ := h
    simp at hf ht
    subst hf; subst ht
    refine ⟨[], v1, v2, rfl, rfl, h3, fun d' v' h' => ?_⟩
    simp only [List.set_cons_zero, RepFs, List.nil_append]
    exact ⟨t0, ts', v', v2, rfl, rfl, h', h4⟩
  | x :: r, ts, vs, i + 1, d, t, h, hf, ht => by
    simp only [RepFs] at h
    obtain ⟨t0, ts', v1, v2, rfl, rfl, h3, h4⟩ := h
    simp at hf ht
    obtain ⟨a, v, b, rfl, ha, hv, hs⟩ := RepFs.get hP i h4 hf ht
    refine ⟨v1 ++ a, v, b, by simp, by simp only [List.length_append, List.take_succ_cons, sumCells, ha, RepT.size hP _ _ _ h3], hv, fun d' v' h' => ?_⟩
    simp only [List.set_cons_succ, RepFs]
    exact ⟨t0, ts', v1, a ++ v' ++ b, rfl, by simp, h3, hs d' v' h'⟩
theorem RepRow.get : ∀ {xs : List D} {e : TypeId} {b o : Nat} (i : Nat) {d : D}, RepRow P w S xs e b o → xs[i]? = some d →
    ∃ vs, CellsAt w S b (o + i * P.cellsOf e) vs ∧ RepT P w S d e vs
  | [], e, b, o, i, d, h, hx => by simp at hx
  | x :: r, e, b, o, 0, d, h, hx => by
    simp only [RepRow] at h
    obtain ⟨vs, h1, h2, _⟩ := h
    simp at hx; subst hx
    exact ⟨vs, by simpa using h1, h2⟩
  | x :: r, e, b, o, i + 1, d, h, hx => by
    simp only [RepRow] at h
    obtain ⟨vs, h1, h2, h3⟩ := h
    simp at hx
    obtain ⟨vs', h4, h5⟩ := RepRow.get i h3 hx
    exact ⟨vs', by rw [show o + (i + 1) * P.cellsOf e = o + P.cellsOf e + i * P.cellsOf e by rw [Nat.succ_mul]; omega]; exact h4, h5⟩
theorem RepRow.drop : ∀ {xs : List D} {e : TypeId} {b o : Nat} (i : Nat), RepRow P w S xs e b o → RepRow P w S (xs.drop i) e b (o + i * P.cellsOf e)
  | xs, e, b, o, 0, h => by simpa using h
  | [], e, b, o, i + 1, h => by simp only [List.drop_nil, RepRow]
  | x :: r, e, b, o, i + 1, h => by
    simp only [RepRow] at h
    obtain ⟨vs, h1, h2, h3⟩ := h
    have := RepRow.drop i h3
    rw [show o + (i + 1) * P.cellsOf e = o + P.cellsOf e + i * P.cellsOf e by rw [Nat.succ_mul]; omega]
    exact this
theorem RepRow.take : ∀ {xs : List D} {e : TypeId} {b o : Nat} (i : Nat), RepRow P w S xs e b o → RepRow P w S (xs.take i) e b o
  | xs, e, b, o, 0, h => by simp only [List.take_zero, RepRow]
  | [], e, b, o, i + 1, h => by simp only [List.take_nil, RepRow]
  | x :: r, e, b, o, i + 1, h => by
    simp only [RepRow, List.take_succ_cons] at h ⊢
    obtain ⟨vs, h1, h2, h3⟩ := h
    exact ⟨vs, h1, h2, RepRow.take i h3⟩
theorem RepRow.append : ∀ {xs ys : List D} {e : TypeId} {b o : Nat}, RepRow P w S xs e b o → RepRow P w S ys e b (o + xs.length * P.cellsOf e) → RepRow P w S (xs ++ ys) e b o
  | [], ys, e, b, o, h, h' => by simpa using h'
  | x :: r, ys, e, b, o, h, h' => by
    simp only [RepRow, List.cons_append] at h ⊢
    obtain ⟨vs, h1, h2, h3⟩ := h
    refine ⟨vs, h1, h2, RepRow.append h3 ?_⟩
    rw [show o + P.cellsOf e + r.length * P.cellsOf e = o + (x :: r).length * P.cellsOf e by simp [Nat.succ_mul]; omega]
    exact h'
theorem RepRow.ty {xs : List D} : ∀ {e e' : TypeId} {b o : Nat}, und P e' = und P e → P.cellsOf e' = P.cellsOf e → RepRow P w S xs e b o → RepRow P w S xs e' b o := by
  induction xs with
  | nil => intros; simp only [RepRow]
  | cons x r ih =>
    intro e e' b o hu hc h
    simp only [RepRow] at h ⊢
    obtain ⟨vs, h1, h2, h3⟩ := h
    exact ⟨vs, h1, h2.ty hu, by rw [hc]; exact ih hu hc h3⟩
end
end Go.Proofs.Ytbdekjlnnbjicaa.V

/- What it says that the temporaries and objects of the abstract machine stand for what lies in the model's memory. -/
namespace Go.Proofs.Ytbdekjlnnbjicaa.V
open Go
set_option linter.unusedVariables false
set_option linter.unusedSimpArgs false

/-- where an object lies: its block; a row's capacity -/
abbrev Loc := Nat → Nat × Nat

/-- where a path leads to within a variable: how many cells on, and of what type -/
def offP (P : Program) : TypeId → List Nat → Option (Nat × TypeId)
  | t, [] => (und P t).map fun _ => (0, underId P t)
  | t, i :: p => match und P t with
    | some (.struct fs) => match fs[i]? with
      | some f => (offP P f.type p).map fun x => (f.offset + x.1, x.2)
      | none => none
    | some (.array n e) => if i < n then (offP P e p).map fun x => (i * P.cellsOf e + x.1, x.2) else none
    | _ => none

/-- what holds an address -/
def hpV : Bool → Nat → Value → Value
  | true, t, x => .iface t x
  | false, f, x => .func (.func f) #[x] #[]
mutual
def RepA (P : Program) (w : World) (S : Addr → Prop) (σ : Loc) (ob : Objs) : AV → Value → Prop
  | .undef, _ => True
  | .i k n, v => v = .int k n
  | .b x, v => v = .bool x
  | .s l, v => ∃ s : ByteArray, s.data.toList = l ∧ v = .string s
  | .snil, v => v = .slice none 0 0
  | .sl e cp xs, v => ∃ a cap, v = .slice a xs.length cap ∧ CapOK cp a xs.length cap ∧ (xs = [] ∨ ∃ b o, a = some ⟨b, o, none⟩ ∧ RepRow P w S xs e b o)
  | .d t x, v => ∃ cs : List Value, v = .agg cs.toArray ∧ RepT P w S x t cs ∧ ∃ fs, x = .agg fs
  | .vp t x, v => ∃ b o vs, v = .pointer (some ⟨b, o, none⟩) ∧ CellsAt w S b o vs ∧ RepT P w S x t vs
  | .pnil, v => v = .pointer none
  | .ptr j p t, v => j < ob.length ∧ ∃ b off, v = .pointer (some ⟨b, off, none⟩) ∧ ∀ tj c, ob[j]? = some (some (.box tj c)) → b = (σ j).1 ∧ offP P tj p = some (off, t)
  | .ref e j, v => j < ob.length ∧ ∃ b n cap, v = .slice (some ⟨b, 0, none⟩) n cap ∧ ∀ e' xs fz, ob[j]? = some (some (.arr e' xs fz)) → e' = e ∧ b = (σ j).1 ∧ n = xs.length ∧ cap = (σ j).2
  | .ap j i p t, v => j < ob.length ∧ ∃ b off, v = .pointer (some ⟨b, off, none⟩) ∧ ∀ e' xs fz, ob[j]? = some (some (.arr e' xs fz)) → b = (σ j).1 ∧ ∃ o, offP P e' p = some (o, t) ∧ off = i * P.cellsOf e' + o
  | .vw e j lo n, v => j < ob.length ∧ ∃ b off cap, v = .slice (some ⟨b, off, none⟩) n cap ∧ (∀ tj c, ob[j]? = some (some (.box tj c)) → b = (σ j).1 ∧ ∃ m e', und P tj = some (.array m e') ∧ underId P e' = e ∧ (0 < n → off = lo * P.cellsOf e') ∧ lo + n ≤ m) ∧ (∀ e' xs fz, ob[j]? = some (some (.arr e' xs fz)) → e' = e ∧ b = (σ j).1 ∧ (0 < n → off = lo * P.cellsOf e) ∧ lo + n ≤ xs.length)
  | .fn f caps, v => ∃ cs : List Value, v = .func (.func f) #[] cs.toArray ∧ RepAs P w S σ ob caps cs
  | .agg t l, v => ∃ (cs : List Value) (flds : Array Field), v = .agg cs.toArray ∧ und P t = some (.struct flds) ∧ RepAg P w S σ ob l (flds.toList.map (·.type)) cs
  | .tuple l, v => ∃ vs : List Value, v = .tuple vs.toArray ∧ RepAs P w S σ ob l vs
  | .hp k d j p t, v => j < ob.length ∧ ∃ b off, v = hpV k d (.pointer (some ⟨b, off, none⟩)) ∧ ∀ tj c, ob[j]? = some (some (.box tj c)) → b = (σ j).1 ∧ offP P tj p = some (off, t)
  | .err x, v => (x = false ∧ v = .nilIface) ∨ (x = true ∧ ∃ t p, v = .iface t p)
def RepAs (P : Program) (w : World) (S : Addr → Prop) (σ : Loc) (ob : Objs) : List AV → List Value → Prop
  | [], vs => vs = []
  | a :: r, vs => ∃ v vs', vs = v :: vs' ∧ RepA P w S σ ob a v ∧ RepAs P w S σ ob r vs'
def RepAg (P : Program) (w : World) (S : Addr → Prop) (σ : Loc) (ob : Objs) : List AV → List TypeId → List Value → Prop
  | [], ts, vs => ts = [] ∧ vs = []
  | a :: r, ts, vs => ∃ t ts' v vs', ts = t :: ts' ∧ vs = v.cells.toList ++ vs' ∧ v.cells.size = P.cellsOf t ∧ fits P t a = true ∧ RepA P w S σ ob a v ∧ RepAg P w S σ ob r ts' vs'
end

/-- a row's elements lie there -/
def RowV (P : Program) (w : World) (S : Addr → Prop) : List D → TypeId → Nat → Nat → Prop
  | [], _, _, _ => True
  | d :: r, e, b, o => ∃ vs, w.rangeAt b o vs ∧ RepT P w S d e vs ∧ RowV P w S r e b (o + P.cellsOf e)

/-- none of the first n cells is frozen -/
def NF (fr : Nat × Nat) (n : Nat) : Prop := ∀ o, o < n → ¬ (fr.1 ≤ o ∧ o < fr.2)
/-- what a variable holds -/
def BoxV (P : Program) (w : World) (S : Addr → Prop) (σ : Loc) (ob : Objs) (t : TypeId) (a : AV) (vs : List Value) : Prop :=
  fits P t a = true ∧ ∃ v : Value, v.cells.toList = vs ∧ RepA P w S σ ob a v

def ObjAt (P : Program) (w : World) (S : Addr → Prop) (σ : Loc) (ob : Objs) (j : Nat) : Obj → Prop
  | .box t a => ∃ (vs : List Value) (el : TypeId) (fr : Nat × Nat), w.heap[(σ j).1]? = some (.cells vs.toArray el fr) ∧ NF fr vs.length ∧ (underId P t = t ∧ underId P el = t ∧ P.cellsOf el = P.cellsOf t) ∧ vs.length = P.cellsOf t ∧
      BoxV P w S σ ob t a vs ∧ (∀ v ∈ vs, v.oneCell' = true) ∧ ∀ x : Addr, S x → x.block ≠ (σ j).1
  | .arr e xs fz => ∃ (cs : Array Value) (el : TypeId) (fr : Nat × Nat), w.heap[(σ j).1]? = some (.cells cs el fr) ∧ NF fr cs.size ∧ cs.size = (σ j).2 * P.cellsOf e ∧ xs.length ≤ (σ j).2 ∧
      RowV P w S xs e (σ j).1 0 ∧ ((∃ dd, und P e = some dd) ∧ underId P el = e ∧ P.cellsOf el = P.cellsOf e) ∧
      (∀ x : Addr, S x → x.block = (σ j).1 → fz = true ∧ x.off < xs.length * P.cellsOf e ∧ x.spot = none)

/-- blocks that may turn; the first objects: where they lie -/
structure XB where
  roots : List (Nat × Nat)
  own : Nat → Prop
  /-- calls that are put off -/
  dfs : List Deferred := []
instance : CoeFun XB fun _ => Nat → Prop := ⟨XB.own⟩
/-- a block has so many cells -/
def Whole (w : World) (g n : Nat) : Prop := ∃ (cs : Array Value) (el : TypeId) (fr : Nat × Nat), w.heap[g]? = some (.cells cs el fr) ∧ cs.size = n
theorem Whole.lt {w : World} {g n : Nat} (h : Whole w g n) : g < w.heap.size := by
  obtain ⟨cs, el, fr, h, _⟩ := h
  exact (Array.getElem?_eq_some_iff.1 h).1
theorem Whole.same {w w' : World} {g n : Nat} (hb : w'.heap[g]? = w.heap[g]?) (h : Whole w g n) : Whole w' g n := by
  obtain ⟨cs, el, fr, h, h2⟩ := h
  exact ⟨cs, el, fr, hb.trans h, h2⟩
/-- an interface value lies there -/
def IfAt (w : World) (S : Addr → Prop) (g : Nat) : Prop := ∃ v, CellsAt w S g 0 [v] ∧ (v = .nilIface ∨ ∃ t p, v = .iface t p)
theorem IfAt.keep {w S w' S' g} (k : Keeps w S w' S') (h : IfAt w S g) : IfAt w' S' g := by
  obtain ⟨v, h1, h2⟩ := h
  exact ⟨v, h1.keep k, h2⟩
/-- package variables that are known hold it -/
structure GlobOK (Γ : Ctx) (w : World) (S : Addr → Prop) : Prop where
  data : ∀ g t x, Γ.G g = some (t, x) → ∃ vs, CellsAt w S g 0 vs ∧ RepT Γ.P w S x t vs ∧ (∀ fs, x = .agg fs → Whole w g vs.length)
  ifs : ∀ g, g ∈ Γ.I → IfAt w S g
/-- the state's memory: w0, S0: as the call began; X: blocks that may turn -/
structure MemOK (Γ : Ctx) (w0 : World) (S0 : Addr → Prop) (X : XB) (w : World) (S : Addr → Prop) (σ : Loc) (ob : Objs) : Prop where
  objs : ∀ j o, ob[j]? = some (some o) → ObjAt Γ.P w S σ ob j o
  apart : ∀ j j' o o', ob[j]? = some (some o) → ob[j']? = some (some o') → j ≠ j' → (σ j).1 ≠ (σ j').1
  own : ∀ j o, ob[j]? = some (some o) → (X (σ j).1 ∨ w0.heap.size ≤ (σ j).1) ∧ (σ j).1 < w.heap.size
  old : ∀ b, b < w0.heap.size → ¬ X b → w.heap[b]? = w0.heap[b]?
  grow : w0.heap.size ≤ w.heap.size
  s0 : ∀ a, S0 a → S a
  snew : ∀ a, S a → S0 a ∨ X a.block ∨ w0.heap.size ≤ a.block
  sin : ∀ a, S a → a.block < w.heap.size
  glob : GlobOK Γ w S
  env : w.os = w0.os ∧ w.output = w0.output
  kept : Keeps w0 S0 w S
  root : ∀ (k : Nat) (p : Nat × Nat), X.roots[k]? = some p → k < ob.length ∧ σ k = p

/-- what follows: the memory stands for the new objects; what a value stood for it stands for -/
structure Trans (Γ : Ctx) (w0 : World) (S0 : Addr → Prop) (X : XB) (w : World) (S : Addr → Prop) (σ : Loc) (ob : Objs) (w' : World) (S' : Addr → Prop) (σ' : Loc) (ob' : Objs) : Prop where
  ok : MemOK Γ w0 S0 X w' S' σ' ob'
  rep : ∀ a v, RepA Γ.P w S σ ob a v → RepA Γ.P w' S' σ' ob' a v
  keeps : Keeps w S w' S'

section
variable {P : Program} {w w' : World} {S S' : Addr → Prop} {σ σ' : Loc} {ob ob' : Objs}

/-- objects stay: each place has an object of the same kind, length and place, or none -/
def Stays (σ : Loc) (ob : Objs) (σ' : Loc) (ob' : Objs) : Prop :=
  ob.length ≤ ob'.length ∧ ∀ j, j < ob.length → ∀ o', ob'[j]? = some (some o') → ∃ o, ob[j]? = some (some o) ∧ (σ' j = σ j) ∧
    match o, o' with
    | .box t _, .box t' _ => t = t'
    | .arr e xs _, .arr e' xs' _ => e = e' ∧ xs.length = xs'.length
    | _, _ => False
theorem Stays.refl (σ : Loc) (ob : Objs) : Stays σ ob σ ob := ⟨Nat.le_refl _, fun j _ o h => ⟨o, h, rfl, by cases o <;> simp⟩⟩

mutual
theorem RepA.keep (k : Keeps w S w' S') (st : Stays σ ob σ' ob') : ∀ (a : AV) (v : Value), RepA P w S σ ob a v → RepA P w' S' σ' ob' a v
  | .undef, v, h => by simp only [RepA]
  | .i _ _, v, h => by simpa only [RepA] using h
  | .b _, v, h => by simpa only [RepA] using h
  | .s _, v, h => by simpa only [RepA] using h
  | .snil, v, h => by simpa only [RepA] using h
  | .sl e cp xs, v, h => by
    simp only [RepA] at h ⊢
    obtain ⟨a, cap, h1, h2, h3⟩ := h
    exact ⟨a, cap, h1, h2, h3.imp id fun ⟨b, o, ha, hr⟩ => ⟨b, o, ha, RepRow.keep k xs e b o hr⟩⟩
  | .d t x, v, h => by
    simp only [RepA] at h ⊢
    obtain ⟨cs, h1, h2, h3⟩ := h
    exact ⟨cs, h1, RepT.keep k x t cs h2, h3⟩
  | .vp t x, v, h => by
    simp only [RepA] at h ⊢
    obtain ⟨b, o, vs, h1, h2, h3⟩ := h
    exact ⟨b, o, vs, h1, h2.keep k, RepT.keep k x t vs h3⟩
  | .pnil, v, h => by simpa only [RepA] using h
  | .ptr j p t, v, h => by
    simp only [RepA] at h ⊢
    obtain ⟨hl, b, off, hv, h⟩ := h
    refine ⟨Nat.lt_of_lt_of_le hl st.1, b, off, hv, fun tj c hc => ?_⟩
    obtain ⟨o, ho, hs, hk⟩ := st.2 j hl _ hc
    cases o with
    | box t0 c0 =>
      simp only at hk; subst hk
      rw [hs]; exact h _ _ ho
    | arr _ _ _ => simp only at hk
  | .ref e j, v, h => by
    simp only [RepA] at h ⊢
    obtain ⟨hl, b, n, cap, hv, h⟩ := h
    refine ⟨Nat.lt_of_lt_of_le hl st.1, b, n, cap, hv, fun e' xs fz hc => ?_⟩
    obtain ⟨o, ho, hs, hk⟩ := st.2 j hl _ hc
    cases o with
    | box t0 c0 => simp only at hk
    | arr e0 xs0 fz0 =>
      simp only at hk
      obtain ⟨h1, h2, h3, h4⟩ := h _ _ _ ho
      exact ⟨hk.1.symm.trans h1, by rw [hs]; exact h2, by rw [← hk.2]; exact h3, by rw [hs]; exact h4⟩
  | .ap j i p t, v, h => by
    simp only [RepA] at h ⊢
    obtain ⟨hl, b, off, hv, h⟩ := h
    refine ⟨Nat.lt_of_lt_of_le hl st.1, b, off, hv, fun e' xs fz hc => ?_⟩
    obtain ⟨o, ho, hs, hk⟩ := st.2 j hl _ hc
    cases o with
    | box t0 c0 => simp only at hk
    | arr e0 xs0 fz0 =>
      simp only at hk
      obtain ⟨rfl, _⟩ := hk
      rw [hs]; exact h _ _ _ ho
  | .vw e j lo n, v, h => by
    simp only [RepA] at h ⊢
    obtain ⟨hl, b, off, cap, hv, g1, g2⟩ := h
    refine ⟨Nat.lt_of_lt_of_le hl st.1, b, off, cap, hv, fun tj c hc => ?_, fun e' xs fz hc => ?_⟩
    · obtain ⟨o, ho, hs, hk⟩ := st.2 j hl _ hc
      cases o with
      | box t0 c0 =>
        simp only at hk; subst hk
        rw [hs]; exact g1 _ _ ho
      | arr _ _ _ => simp only at hk
    · obtain ⟨o, ho, hs, hk⟩ := st.2 j hl _ hc
      cases o with
      | box t0 c0 => simp only at hk
      | arr e0 xs0 fz0 =>
        simp only at hk
        obtain ⟨rfl, hl2⟩ := hk
        rw [hs, ← hl2]; exact g2 _ _ _ ho
  | .fn f caps, v, h => by
    simp only [RepA] at h ⊢
    obtain ⟨cs, h1, h2⟩ := h
    exact ⟨cs, h1, RepAs.keep k st caps cs h2⟩
  | .agg t l, v, h => by
    simp only [RepA] at h ⊢
    obtain ⟨cs, flds, h1, h2, h3⟩ := h
    exact ⟨cs, flds, h1, h2, RepAg.keep k st l _ cs h3⟩
  | .tuple l, v, h => by
    simp only [RepA] at h ⊢
    obtain ⟨cs, h1, h2⟩ := h
    exact ⟨cs, h1, RepAs.keep k st l cs h2⟩
  | .hp k d j p t, v, h => by
    simp only [RepA] at h ⊢
    obtain ⟨hl, b, off, hv, h⟩ := h
    refine ⟨Nat.lt_of_lt_of_le hl st.1, b, off, hv, fun tj c hc => ?_⟩
    obtain ⟨o, ho, hs, hk⟩ := st.2 j hl _ hc
    cases o with
    | box t0 c0 =>
      simp only at hk; subst hk
      rw [hs]; exact h _ _ ho
    | arr _ _ _ => simp only at hk
  | .err x, v, h => by
    simp only [RepA] at h ⊢
    exact h
theorem RepAs.keep (k : Keeps w S w' S') (st : Stays σ ob σ' ob') : ∀ (l : List AV) (vs : List Value), RepAs P w S σ ob l vs → RepAs P w' S' σ' ob' l vs
  | [], vs, h => by simpa only [RepAs] using h
  | a :: r, vs, h => by
    simp only [RepAs] at h ⊢
    obtain ⟨v, vs', h1, h2, h3⟩ := h
    exact ⟨v, vs', h1, RepA.keep k st a v h2, RepAs.keep k st r vs' h3⟩
theorem RepAg.keep (k : Keeps w S w' S') (st : Stays σ ob σ' ob') : ∀ (l : List AV) (ts : List TypeId) (vs : List Value), RepAg P w S σ ob l ts vs → RepAg P w' S' σ' ob' l ts vs
  | [], ts, vs, h => by simpa only [RepAg] using h
  | a :: r, ts, vs, h => by
    simp only [RepAg] at h ⊢
    obtain ⟨t, ts', v, vs', h1, h2, h3, h4, h5, h6⟩ := h
    exact ⟨t, ts', v, vs', h1, h2, h3, h4, RepA.keep k st a v h5, RepAg.keep k st r ts' vs' h6⟩
end
theorem BoxV.keep (k : Keeps w S w' S') (st : Stays σ ob σ' ob') {t a vs} (h : BoxV P w S σ ob t a vs) : BoxV P w' S' σ' ob' t a vs :=
  let ⟨h1, v, h2, h3⟩ := h; ⟨h1, v, h2, RepA.keep k st a v h3⟩

/-! ### rows -/
theorem RowV.keep (k : Keeps w S w' S') : ∀ {xs : List D} {e : TypeId} {b o : Nat}, (∀ n, w'.cell? ⟨b, n, none⟩ = w.cell? ⟨b, n, none⟩) → RowV P w S xs e b o → RowV P w' S' xs e b o
  | [], _, _, _, _, _ => by simp only [RowV]
  | d :: r, e, b, o, hb, h => by
    simp only [RowV] at h ⊢
    obtain ⟨vs, h1, h2, h3⟩ := h
    exact ⟨vs, fun j v hv => by rw [hb]; exact h1 j v hv, RepT.keep k d e vs h2, RowV.keep k hb h3⟩
/-- a row may be looked at with fewer cells known: those of its own length -/
theorem RowV.keepIn (k : Keeps w S w' S') (hP : tabOk P = true) : ∀ {xs : List D} {e : TypeId} {b o : Nat}, (∀ n, n < o + xs.length * P.cellsOf e → w'.cell? ⟨b, n, none⟩ = w.cell? ⟨b, n, none⟩) → RowV P w S xs e b o → RowV P w' S' xs e b o
  | [], _, _, _, _, _ => by simp only [RowV]
  | d :: r, e, b, o, hb, h => by
    simp only [RowV] at h ⊢
    obtain ⟨vs, h1, h2, h3⟩ := h
    have hs := RepT.size hP _ _ _ h2
    simp only [List.length_cons, Nat.succ_mul] at hb
    refine ⟨vs, fun j v hv => ?_, RepT.keep k d e vs h2, RowV.keepIn k hP (fun n hn => hb n (by omega)) h3⟩
    have hj := (List.getElem?_eq_some_iff.1 hv).1
    rw [hb _ (by omega)]; exact h1 j v hv
theorem RowV.get : ∀ {xs : List D} {e : TypeId} {b o : Nat} (i : Nat) {d : D}, RowV P w S xs e b o → xs[i]? = some d →
    ∃ vs, w.rangeAt b (o + i * P.cellsOf e) vs ∧ RepT P w S d e vs
  | [], e, b, o, i, d, h, hx => by simp at hx
  | x :: r, e, b, o, 0, d, h, hx => by
    simp only [RowV] at h
    obtain ⟨vs, h1, h2, _⟩ := h
    simp at hx; subst hx
    exact ⟨vs, by simpa using h1, h2⟩
  | x :: r, e, b, o, i + 1, d, h, hx => by
    simp only [RowV] at h
    obtain ⟨vs, h1, h2, h3⟩ := h
    simp at hx
    obtain ⟨vs', h4, h5⟩ := RowV.get i h3 hx
    exact ⟨vs', by rw [show o + (i + 1) * P.cellsOf e = o + P.cellsOf e + i * P.cellsOf e by rw [Nat.succ_mul]; omega]; exact h4, h5⟩
theorem RowV.take : ∀ {xs : List D} {e : TypeId} {b o : Nat} (i : Nat), RowV P w S xs e b o → RowV P w S (xs.take i) e b o
  | xs, e, b, o, 0, h => by simp only [List.take_zero, RowV]
  | [], e, b, o, i + 1, h => by simp only [List.take_nil, RowV]
  | x :: r, e, b, o, i + 1, h => by
    simp only [RowV, List.take_succ_cons] at h ⊢
    obtain ⟨vs, h1, h2, h3⟩ := h
    exact ⟨vs, h1, h2, RowV.take i h3⟩
theorem RowV.append : ∀ {xs ys : List D} {e : TypeId} {b o : Nat}, RowV P w S xs e b o → RowV P w S ys e b (o + xs.length * P.cellsOf e) → RowV P w S (xs ++ ys) e b o
  | [], ys, e, b, o, h, h' => by simpa using h'
  | x :: r, ys, e, b, o, h, h' => by
    simp only [RowV, List.cons_append] at h ⊢
    obtain ⟨vs, h1, h2, h3⟩ := h
    refine ⟨vs, h1, h2, RowV.append h3 ?_⟩
    rw [show o + P.cellsOf e + r.length * P.cellsOf e = o + (x :: r).length * P.cellsOf e by simp [Nat.succ_mul]; omega]
    exact h'
theorem RowV.toRep (hP : tabOk P = true) : ∀ {xs : List D} {e : TypeId} {b o : Nat}, (∀ n, o ≤ n → n < o + xs.length * P.cellsOf e → S ⟨b, n, none⟩) → RowV P w S xs e b o → RepRow P w S xs e b o
  | [], _, _, _, _, _ => by simp only [RepRow]
  | d :: r, e, b, o, hS, h => by
    simp only [RowV, RepRow] at h ⊢
    obtain ⟨vs, h1, h2, h3⟩ := h
    have hs := RepT.size hP _ _ _ h2
    simp only [List.length_cons, Nat.succ_mul] at hS
    refine ⟨vs, fun j v hv => ⟨h1 j v hv, hS _ (by omega) ?_⟩, h2, RowV.toRep hP (fun n hn hn' => hS n (by omega) (by omega)) h3⟩
    have hj := (List.getElem?_eq_some_iff.1 hv).1
    omega
theorem RepRow.toV : ∀ {xs : List D} {e : TypeId} {b o : Nat}, RepRow P w S xs e b o → RowV P w S xs e b o
  | [], _, _, _, _ => by simp only [RowV]
  | d :: r, e, b, o, h => by
    simp only [RowV, RepRow] at h ⊢
    obtain ⟨vs, h1, h2, h3⟩ := h
    exact ⟨vs, fun j v hv => (h1 j v hv).1, h2, RepRow.toV h3⟩

/-! ### paths -/
theorem offsOk_get : ∀ {fs : List Field} {o i : Nat} {f : Field}, offsOk P o fs = true → fs[i]? = some f → f.offset = o + sumCells P ((fs.map (·.type)).take i)
  | [], o, i, f, h, hf => by simp at hf
  | g :: r, o, 0, f, h, hf => by
    simp only [offsOk, Bool.and_eq_true] at h
    simp at hf; subst hf
    simp only [List.map_cons, List.take_zero, sumCells, Nat.add_zero]
    exact Nat.eq_of_beq_eq_true h.1
  | g :: r, o, i + 1, f, h, hf => by
    simp only [offsOk, Bool.and_eq_true] at h
    simp at hf
    have := offsOk_get h.2 hf
    simp only [List.map_cons, List.take_succ_cons, sumCells]
    omega
theorem sumCells_take_replicate (n i : Nat) (e : TypeId) (h : i ≤ n) : sumCells P ((List.replicate n e).take i) = i * P.cellsOf e := by
  rw [List.take_replicate, Nat.min_eq_left h, sumCells_replicate]

theorem modify_set {α : Type} {ys : List α} {i : Nat} {y : α} (h : ys[i]? = some y) (f : α → α) : ys.modify i f = ys.set i (f y) := by
  apply List.ext_getElem?
  intro k
  rw [List.getElem?_modify, List.getElem?_set]
  have hi := (List.getElem?_eq_some_iff.1 h).1
  by_cases hk : i = k
  · subst hk
    have := (List.getElem?_eq_some_iff.1 h).2
    simp [hi, this]
  · simp [hk]
/-- a component found by its path, and replaced -/
theorem navD_ok (hP : tabOk P = true) {R : Type} : ∀ (p : List Nat) (x : D) (t : TypeId) (vs : List Value) (off : Nat) (u : TypeId) (K : D → Option R) (r : R),
    RepT P w S x t vs → offP P t p = some (off, u) → navD p x K = some r →
    ∃ y a v b, K y = some r ∧ vs = a ++ v ++ b ∧ a.length = off ∧ RepT P w S y u v ∧ ∀ y' v', RepT P w S y' u v' → RepT P w S (setD p x y') t (a ++ v' ++ b)
  | [], x, t, vs, off, u, K, r, h, ho, hn => by
    simp only [offP] at ho
    obtain ⟨dn, hdn, ho⟩ := Option.map_eq_some_iff.1 ho
    simp only [Prod.mk.injEq] at ho
    obtain ⟨rfl, rfl⟩ := ho
    simp only [navD] at hn
    refine ⟨x, [], vs, [], hn, by simp, rfl, h.under hP, fun y' v' h' => ?_⟩
    simp only [setD, List.nil_append, List.append_nil]
    obtain ⟨dd, hd⟩ := h.has
    exact h'.ty (hd.trans (underId_spec hP hd).1.symm)
  | i :: p, x, t, vs, off, u, K, r, h, ho, hn => by
    cases x with
    | agg ys =>
      simp only [navD, dAgg, lGet] at hn
      cases hy : ys[i]? with
      | none => simp [hy] at hn
      | some y =>
        simp only [hy] at hn
        have setEq : ∀ y', setD (i :: p) (.agg ys) y' = .agg (ys.set i (setD p y y')) := by
          intro y'
          cases p with
          | nil => simp only [setD]
          | cons j q =>
            simp only [setD]
            congr 1
            exact modify_set hy _
        simp only [RepT] at h
        rcases h with ⟨flds, h1, h2⟩ | ⟨n, e, h1, h2, h3⟩
        · simp only [offP, h1] at ho
          cases hf : flds[i]? with
          | none => simp [hf] at ho
          | some f =>
            simp only [hf] at ho
            obtain ⟨x1, hx1, hx2⟩ := Option.map_eq_some_iff.1 ho
            simp only [Prod.mk.injEq] at hx2
            have hfl : flds.toList[i]? = some f := by simpa using hf
            obtain ⟨a, v, b, rfl, ha, hv, hs⟩ := RepFs.get hP i h2 hy (t := f.type) (by simp [hfl])
            obtain ⟨y1, a1, v1, b1, hK, rfl, ha1, hv1, hs1⟩ := navD_ok hP p y f.type v x1.1 x1.2 K r hv (by rw [hx1]) hn
            refine ⟨y1, a ++ a1, v1, b1 ++ b, hK, by simp, ?_, hx2.2 ▸ hv1, fun y' v' h' => ?_⟩
            · rw [List.length_append, ha, ha1, ← hx2.1, offsOk_get (cells_struct hP h1).1 hfl]; omega
            · rw [setEq]
              simp only [RepT]
              refine .inl ⟨flds, h1, ?_⟩
              have := hs _ _ (hs1 y' v' (by rw [hx2.2]; exact h'))
              simpa [List.append_assoc] using this
        · simp only [offP, h1] at ho
          split at ho
          · rename_i hin
            obtain ⟨x1, hx1, hx2⟩ := Option.map_eq_some_iff.1 ho
            simp only [Prod.mk.injEq] at hx2
            obtain ⟨a, v, b, rfl, ha, hv, hs⟩ := RepFs.get hP i h3 hy (t := e) (by simp [hin])
            obtain ⟨y1, a1, v1, b1, hK, rfl, ha1, hv1, hs1⟩ := navD_ok hP p y e v x1.1 x1.2 K r hv (by rw [hx1]) hn
            refine ⟨y1, a ++ a1, v1, b1 ++ b, hK, by simp, ?_, hx2.2 ▸ hv1, fun y' v' h' => ?_⟩
            · rw [List.length_append, ha, ha1, ← hx2.1, sumCells_take_replicate _ _ _ (by omega)]
            · rw [setEq]
              simp only [RepT]
              refine .inr ⟨n, e, h1, by simpa using h2, ?_⟩
              have := hs _ _ (hs1 y' v' (by rw [hx2.2]; exact h'))
              simpa [List.append_assoc] using this
          · exact absurd ho (by simp)
    | _ => simp [navD, dAgg] at hn
end
end Go.Proofs.Ytbdekjlnnbjicaa.V
