/- What it says that the temporaries and objects of the abstract machine stand for what lies in the model's memory. -/
import Derived.Test.YtjbemleloffafaaDoorFrC
namespace Go.Proofs.YtjbemleloffafaaDoor.V
open Go
set_option linter.unusedVariables false
set_option linter.unusedSimpArgs false

/-- where an object lies: its block; a row's capacity -/
abbrev Loc := Nat → Nat × Nat

/-- where a path leads to within a variable: how many cells on, and of what type -/
def offP (P : Program) : TypeId → List Nat → Option (Nat × TypeId)
  | t, [] => (und P t).map fun _ => (0, underId P t)
  | t, i :: p => match und P t with
    | some (.struct fs) => match fs[i]? with
      | some f => (offP P f.type p).map fun x => (f.offset + x.1, x.2)
      | none => none
    | some (.array n e) => if i < n then (offP P e p).map fun x => (i * P.cellsOf e + x.1, x.2) else none
    | _ => none

mutual
def RepA (P : Program) (w : World) (S : Addr → Prop) (σ : Loc) (ob : Objs) : AV → Value → Prop
  | .undef, _ => True
  | .i k n, v => v = .int k n
  | .b x, v => v = .bool x
  | .s l, v => ∃ s : ByteArray, s.data.toList = l ∧ v = .string s
  | .snil, v => v = .slice none 0 0
  | .sl e cp xs, v => ∃ a cap, v = .slice a xs.length cap ∧ CapOK cp a xs.length cap ∧ (xs = [] ∨ ∃ b o, a = some ⟨b, o, none⟩ ∧ RepRow P w S xs e b o)
  | .d t x, v => ∃ cs : List Value, v = .agg cs.toArray ∧ RepT P w S x t cs ∧ ∃ fs, x = .agg fs
  | .vp t x, v => ∃ b o vs, v = .pointer (some ⟨b, o, none⟩) ∧ CellsAt w S b o vs ∧ RepT P w S x t vs
  | .pnil, v => v = .pointer none
  | .ptr j p t, v => j < ob.length ∧ ∃ b off, v = .pointer (some ⟨b, off, none⟩) ∧ ∀ tj c, ob[j]? = some (some (.box tj c)) → b = (σ j).1 ∧ offP P tj p = some (off, t)
  | .ref e j, v => j < ob.length ∧ ∃ b n cap, v = .slice (some ⟨b, 0, none⟩) n cap ∧ ∀ e' xs fz, ob[j]? = some (some (.arr e' xs fz)) → e' = e ∧ b = (σ j).1 ∧ n = xs.length ∧ cap = (σ j).2
  | .ap j i p t, v => j < ob.length ∧ ∃ b off, v = .pointer (some ⟨b, off, none⟩) ∧ ∀ e' xs fz, ob[j]? = some (some (.arr e' xs fz)) → b = (σ j).1 ∧ ∃ o, offP P e' p = some (o, t) ∧ off = i * P.cellsOf e' + o
  | .fn f caps, v => ∃ cs : List Value, v = .func (.func f) #[] cs.toArray ∧ RepAs P w S σ ob caps cs
  | .agg t l, v => ∃ (cs : List Value) (flds : Array Field), v = .agg cs.toArray ∧ und P t = some (.struct flds) ∧ RepAg P w S σ ob l (flds.toList.map (·.type)) cs
  | .tuple l, v => ∃ vs : List Value, v = .tuple vs.toArray ∧ RepAs P w S σ ob l vs
  | .err x, v => (x = false ∧ v = .nilIface) ∨ (x = true ∧ ∃ t p, v = .iface t p)
def RepAs (P : Program) (w : World) (S : Addr → Prop) (σ : Loc) (ob : Objs) : List AV → List Value → Prop
  | [], vs => vs = []
  | a :: r, vs => ∃ v vs', vs = v :: vs' ∧ RepA P w S σ ob a v ∧ RepAs P w S σ ob r vs'
def RepAg (P : Program) (w : World) (S : Addr → Prop) (σ : Loc) (ob : Objs) : List AV → List TypeId → List Value → Prop
  | [], ts, vs => ts = [] ∧ vs = []
  | a :: r, ts, vs => ∃ t ts' v vs', ts = t :: ts' ∧ vs = v.cells.toList ++ vs' ∧ v.cells.size = P.cellsOf t ∧ fits P t a = true ∧ RepA P w S σ ob a v ∧ RepAg P w S σ ob r ts' vs'
end

/-- a row's elements lie there -/
def RowV (P : Program) (w : World) (S : Addr → Prop) : List D → TypeId → Nat → Nat → Prop
  | [], _, _, _ => True
  | d :: r, e, b, o => ∃ vs, w.rangeAt b o vs ∧ RepT P w S d e vs ∧ RowV P w S r e b (o + P.cellsOf e)

/-- none of the first n cells is frozen -/
def NF (fr : Nat × Nat) (n : Nat) : Prop := ∀ o, o < n → ¬ (fr.1 ≤ o ∧ o < fr.2)
/-- what a variable holds -/
def BoxV (P : Program) (w : World) (S : Addr → Prop) (σ : Loc) (ob : Objs) (t : TypeId) (a : AV) (vs : List Value) : Prop :=
  fits P t a = true ∧ ∃ v : Value, v.cells.toList = vs ∧ RepA P w S σ ob a v

def ObjAt (P : Program) (w : World) (S : Addr → Prop) (σ : Loc) (ob : Objs) (j : Nat) : Obj → Prop
  | .box t a => ∃ (vs : List Value) (el : TypeId) (fr : Nat × Nat), w.heap[(σ j).1]? = some (.cells vs.toArray el fr) ∧ NF fr vs.length ∧ (underId P t = t ∧ underId P el = t ∧ P.cellsOf el = P.cellsOf t) ∧ vs.length = P.cellsOf t ∧
      BoxV P w S σ ob t a vs ∧ (∀ v ∈ vs, v.oneCell' = true) ∧ ∀ x : Addr, S x → x.block ≠ (σ j).1
  | .arr e xs fz => ∃ (cs : Array Value) (el : TypeId) (fr : Nat × Nat), w.heap[(σ j).1]? = some (.cells cs el fr) ∧ NF fr cs.size ∧ cs.size = (σ j).2 * P.cellsOf e ∧ xs.length ≤ (σ j).2 ∧
      RowV P w S xs e (σ j).1 0 ∧ ((∃ dd, und P e = some dd) ∧ underId P el = e ∧ P.cellsOf el = P.cellsOf e) ∧
      (∀ x : Addr, S x → x.block = (σ j).1 → fz = true ∧ x.off < xs.length * P.cellsOf e ∧ x.spot = none)

/-- blocks that may turn; the first objects: where they lie -/
structure XB where
  roots : List (Nat × Nat)
  own : Nat → Prop
instance : CoeFun XB fun _ => Nat → Prop := ⟨XB.own⟩
/-- a block has so many cells -/
def Whole (w : World) (g n : Nat) : Prop := ∃ (cs : Array Value) (el : TypeId) (fr : Nat × Nat), w.heap[g]? = some (.cells cs el fr) ∧ cs.size = n
theorem Whole.lt {w : World} {g n : Nat} (h : Whole w g n) : g < w.heap.size := by
  obtain ⟨cs, el, fr, h, _⟩ := h
  exact (Array.getElem?_eq_some_iff.1 h).1
theorem Whole.same {w w' : World} {g n : Nat} (hb : w'.heap[g]? = w.heap[g]?) (h : Whole w g n) : Whole w' g n := by
  obtain ⟨cs, el, fr, h, h2⟩ := h
  exact ⟨cs, el, fr, hb.trans h, h2⟩
/-- an interface value lies there -/
def IfAt (w : World) (S : Addr → Prop) (g : Nat) : Prop := ∃ v, CellsAt w S g 0 [v] ∧ (v = .nilIface ∨ ∃ t p, v = .iface t p)
theorem IfAt.keep {w S w' S' g} (k : Keeps w S w' S') (h : IfAt w S g) : IfAt w' S' g := by
  obtain ⟨v, h1, h2⟩ := h
  exact ⟨v, h1.keep k, h2⟩
/-- package variables that are known hold it -/
structure GlobOK (Γ : Ctx) (w : World) (S : Addr → Prop) : Prop where
  data : ∀ g t x, Γ.G g = some (t, x) → ∃ vs, CellsAt w S g 0 vs ∧ RepT Γ.P w S x t vs ∧ (∀ fs, x = .agg fs → Whole w g vs.length)
  ifs : ∀ g, g ∈ Γ.I → IfAt w S g
/-- the state's memory: w0, S0: as the call began; X: blocks that may turn -/
structure MemOK (Γ : Ctx) (w0 : World) (S0 : Addr → Prop) (X : XB) (w : World) (S : Addr → Prop) (σ : Loc) (ob : Objs) : Prop where
  objs : ∀ j o, ob[j]? = some (some o) → ObjAt Γ.P w S σ ob j o
  apart : ∀ j j' o o', ob[j]? = some (some o) → ob[j']? = some (some o') → j ≠ j' → (σ j).1 ≠ (σ j').1
  own : ∀ j o, ob[j]? = some (some o) → (X (σ j).1 ∨ w0.heap.size ≤ (σ j).1) ∧ (σ j).1 < w.heap.size
  old : ∀ b, b < w0.heap.size → ¬ X b → w.heap[b]? = w0.heap[b]?
  grow : w0.heap.size ≤ w.heap.size
  s0 : ∀ a, S0 a → S a
  snew : ∀ a, S a → S0 a ∨ X a.block ∨ w0.heap.size ≤ a.block
  sin : ∀ a, S a → a.block < w.heap.size
  glob : GlobOK Γ w S
  env : w.os = w0.os ∧ w.output = w0.output
  kept : Keeps w0 S0 w S
  root : ∀ (k : Nat) (p : Nat × Nat), X.roots[k]? = some p → k < ob.length ∧ σ k = p

/-- what follows: the memory stands for the new objects; what a value stood for it stands for -/
structure Trans (Γ : Ctx) (w0 : World) (S0 : Addr → Prop) (X : XB) (w : World) (S : Addr → Prop) (σ : Loc) (ob : Objs) (w' : World) (S' : Addr → Prop) (σ' : Loc) (ob' : Objs) : Prop where
  ok : MemOK Γ w0 S0 X w' S' σ' ob'
  rep : ∀ a v, RepA Γ.P w S σ ob a v → RepA Γ.P w' S' σ' ob' a v
  keeps : Keeps w S w' S'

section
variable {P : Program} {w w' : World} {S S' : Addr → Prop} {σ σ' : Loc} {ob ob' : Objs}

/-- objects stay: each place has an object of the same kind, length and place, or none -/
def Stays (σ : Loc) (ob : Objs) (σ' : Loc) (ob' : Objs) : Prop :=
  ob.length ≤ ob'.length ∧ ∀ j, j < ob.length → ∀ o', ob'[j]? = some (some o') → ∃ o, ob[j]? = some (some o) ∧ (σ' j = σ j) ∧
    match o, o' with
    | .box t _, .box t' _ => t = t'
    | .arr e xs _, .arr e' xs' _ => e = e' ∧ xs.length = xs'.length
    | _, _ => False
theorem Stays.refl (σ : Loc) (ob : Objs) : Stays σ ob σ ob := ⟨Nat.le_refl _, fun j _ o h => ⟨o, h, rfl, by cases o <;> simp⟩⟩

mutual
theorem RepA.keep (k : Keeps w S w' S') (st : Stays σ ob σ' ob') : ∀ (a : AV) (v : Value), RepA P w S σ ob a v → RepA P w' S' σ' ob' a v
  | .undef, v, h => by simp only [RepA]
  | .i _ _, v, h => by simpa only [RepA] using h
  | .b _, v, h => by simpa only [RepA] using h
  | .s _, v, h => by simpa only [RepA] using h
  | .snil, v, h => by simpa only [RepA] using h
  | .sl e cp xs, v, h => by
    simp only [RepA] at h ⊢
    obtain ⟨a, cap, h1, h2, h3⟩ := h
    exact ⟨a, cap, h1, h2, h3.imp id fun ⟨b, o, ha, hr⟩ => ⟨b, o, ha, RepRow.keep k xs e b o hr⟩⟩
  | .d t x, v, h => by
    simp only [RepA] at h ⊢
    obtain ⟨cs, h1, h2, h3⟩ := h
    exact ⟨cs, h1, RepT.keep k x t cs h2, h3⟩
  | .vp t x, v, h => by
    simp only [RepA] at h ⊢
    obtain ⟨b, o, vs, h1, h2, h3⟩ := h
    exact ⟨b, o, vs, h1, h2.keep k, RepT.keep k x t vs h3⟩
  | .pnil, v, h => by simpa only [RepA] using h
  | .ptr j p t, v, h => by
    simp only [RepA] at h ⊢
    obtain ⟨hl, b, off, hv, h⟩ := h
    refine ⟨Nat.lt_of_lt_of_le hl st.1, b, off, hv, fun tj c hc => ?_⟩
    obtain ⟨o, ho, hs, hk⟩ := st.2 j hl _ hc
    cases o with
    | box t0 c0 =>
      simp only at hk; subst hk
      rw [hs]; exact h _ _ ho
    | arr _ _ _ => simp only at hk
  | .ref e j, v, h => by
    simp only [RepA] at h ⊢
    obtain ⟨hl, b, n, cap, hv, h⟩ := h
    refine ⟨Nat.lt_of_lt_of_le hl st.1, b, n, cap, hv, fun e' xs fz hc => ?_⟩
    obtain ⟨o, ho, hs, hk⟩ := st.2 j hl _ hc
    cases o with
    | box t0 c0 => simp only at hk
    | arr e0 xs0 fz0 =>
      simp only at hk
      obtain ⟨h1, h2, h3, h4⟩ := h _ _ _ ho
      exact ⟨hk.1.symm.trans h1, by rw [hs]; exact h2, by rw [← hk.2]; exact h3, by rw [hs]; exact h4⟩
  | .ap j i p t, v, h => by
    simp only [RepA] at h ⊢
    obtain ⟨hl, b, off, hv, h⟩ := h
    refine ⟨Nat.lt_of_lt_of_le hl st.1, b, off, hv, fun e' xs fz hc => ?_⟩
    obtain ⟨o, ho, hs, hk⟩ := st.2 j hl _ hc
    cases o with
    | box t0 c0 => simp only at hk
    | arr e0 xs0 fz0 =>
      simp only at hk
      obtain ⟨rfl, _⟩ := hk
      rw [hs]; exact h _ _ _ ho
  | .fn f caps, v, h => by
    simp only [RepA] at h ⊢
    obtain ⟨cs, h1, h2⟩ := h
    exact ⟨cs, h1, RepAs.keep k st caps cs h2⟩
  | .agg t l, v, h => by
    simp only [RepA] at h ⊢
    obtain ⟨cs, flds, h1, h2, h3⟩ := h
    exact ⟨cs, flds, h1, h2, RepAg.keep k st l _ cs h3⟩
  | .tuple l, v, h => by
    simp only [RepA] at h ⊢
    obtain ⟨cs, h1, h2⟩ := h
    exact ⟨cs, h1, RepAs.keep k st l cs h2⟩
  | .err x, v, h => by
    simp only [RepA] at h ⊢
    exact h
theorem RepAs.keep (k : Keeps w S w' S') (st : Stays σ ob σ' ob') : ∀ (l : List AV) (vs : List Value), RepAs P w S σ ob l vs → RepAs P w' S' σ' ob' l vs
  | [], vs, h => by simpa only [RepAs] using h
  | a :: r, vs, h => by
    simp only [RepAs] at h ⊢
    obtain ⟨v, vs', h1, h2, h3⟩ := h
    exact ⟨v, vs', h1, RepA.keep k st a v h2, RepAs.keep k st r vs' h3⟩
theorem RepAg.keep (k : Keeps w S w' S') (st : Stays σ ob σ' ob') : ∀ (l : List AV) (ts : List TypeId) (vs : List Value), RepAg P w S σ ob l ts vs → RepAg P w' S' σ' ob' l ts vs
  | [], ts, vs, h => by simpa only [RepAg] using h
  | a :: r, ts, vs, h => by
    simp only [RepAg] at h ⊢
    obtain ⟨t, ts', v, vs', h1, h2, h3, h4, h5, h6⟩ := h
    exact ⟨t, ts', v, vs', h1, h2, h3, h4, RepA.keep k st a v h5, RepAg.keep k st r ts' vs' h6⟩
end
theorem BoxV.keep (k : Keeps w S w' S') (st : Stays σ ob σ' ob') {t a vs} (h : BoxV P w S σ ob t a vs) : BoxV P w' S' σ' ob' t a vs :=
  let ⟨h1, v, h2, h3⟩ := h; ⟨h1, v, h2, RepA.keep k st a v h3⟩

/-! ### rows -/
theorem RowV.keep (k : Keeps w S w' S') : ∀ {xs : List D} {e : TypeId} {b o : Nat}, (∀ n, w'.cell? ⟨b, n, none⟩ = w.cell? ⟨b, n, none⟩) → RowV P w S xs e b o → RowV P w' S' xs e b o
  | [], _, _, _, _, _ => by simp only [RowV]
  | d :: r, e, b, o, hb, h => by
    simp only [RowV] at h ⊢
    obtain ⟨vs, h1, h2, h3⟩ := h
    exact ⟨vs, fun j v hv => by rw [hb]; exact h1 j v hv, RepT.keep k d e vs h2, RowV.keep k hb h3⟩
/-- a row may be looked at with fewer cells known: those of its own length -/
theorem RowV.keepIn (k : Keeps w S w' S') (hP : tabOk P = true) : ∀ {xs : List D} {e : TypeId} {b o : Nat}, (∀ n, n < o + xs.length * P.cellsOf e → w'.cell? ⟨b, n, none⟩ = w.cell? ⟨b, n, none⟩) → RowV P w S xs e b o → RowV P w' S' xs e b o
  | [], _, _, _, _, _ => by simp only [RowV]
  | d :: r, e, b, o, hb, h => by
    simp only [RowV] at h ⊢
    obtain ⟨vs, h1, h2, h3⟩ := h
    have hs := RepT.size hP _ _ _ h2
    simp only [List.length_cons, Nat.succ_mul] at hb
    refine ⟨vs, fun j v hv => ?_, RepT.keep k d e vs h2, RowV.keepIn k hP (fun n hn => hb n (by omega)) h3⟩
    have hj := (List.getElem?_eq_some_iff.1 hv).1
    rw [hb _ (by omega)]; exact h1 j v hv
theorem RowV.get : ∀ {xs : List D} {e : TypeId} {b o : Nat} (i : Nat) {d : D}, RowV P w S xs e b o → xs[i]? = some d →
    ∃ vs, w.rangeAt b (o + i * P.cellsOf e) vs ∧ RepT P w S d e vs
  | [], e, b, o, i, d, h, hx => by simp at hx
  | x :: r, e, b, o, 0, d, h, hx => by
    simp only [RowV] at h
    obtain ⟨vs, h1, h2, _⟩ := h
    simp at hx; subst hx
    exact ⟨vs, by simpa using h1, h2⟩
  | x :: r, e, b, o, i + 1, d, h, hx => by
    simp only [RowV] at h
    obtain ⟨vs, h1, h2, h3⟩ := h
    simp at hx
    obtain ⟨vs', h4, h5⟩ := RowV.get i h3 hx
    exact ⟨vs', by rw [show o + (i + 1) * P.cellsOf e = o + P.cellsOf e + i * P.cellsOf e by rw [Nat.succ_mul]; omega]; exact h4, h5⟩
theorem RowV.take : ∀ {xs : List D} {e : TypeId} {b o : Nat} (i : Nat), RowV P w S xs e b o → RowV P w S (xs.take i) e b o
  | xs, e, b, o, 0, h => by simp only [List.take_zero, RowV]
  | [], e, b, o, i + 1, h => by simp only [List.take_nil, RowV]
  | x :: r, e, b, o, i + 1, h => by
    simp only [RowV, List.take_succ_cons] at h ⊢
    obtain ⟨vs, h1, h2, h3⟩ := h
    exact ⟨vs, h1, h2, RowV.take i h3⟩
theorem RowV.append : ∀ {xs ys : List D} {e : TypeId} {b o : Nat}, RowV P w S xs e b o → RowV P w S ys e b (o + xs.length * P.cellsOf e) → RowV P w S (xs ++ ys) e b o
  | [], ys, e, b, o, h, h' => by simpa using h'
  | x :: r, ys, e, b, o, h, h' => by
    simp only [RowV, List.cons_append] at h ⊢
    obtain ⟨vs, h1, h2, h3⟩ := h
    refine ⟨vs, h1, h2, RowV.append h3 ?_⟩
    rw [show o + P.cellsOf e + r.length * P.cellsOf e = o + (x :: r).length * P.cellsOf e by simp [Nat.succ_mul]; omega]
    exact h'
theorem RowV.toRep (hP : tabOk P = true) : ∀ {xs : List D} {e : TypeId} {b o : Nat}, (∀ n, o ≤ n → n < o + xs.length * P.cellsOf e → S ⟨b, n, none⟩) → RowV P w S xs e b o → RepRow P w S xs e b o
  | [], _, _, _, _, _ => by simp only [RepRow]
  | d :: r, e, b, o, hS, h => by
    simp only [RowV, RepRow] at h ⊢
    obtain ⟨vs, h1, h2, h3⟩ := h
    have hs := RepT.size hP _ _ _ h2
    simp only [List.length_cons, Nat.succ_mul] at hS
    refine ⟨vs, fun j v hv => ⟨h1 j v hv, hS _ (by omega) ?_⟩, h2, RowV.toRep hP (fun n hn hn' => hS n (by omega) (by omega)) h3⟩
    have hj := (List.getElem?_eq_some_iff.1 hv).1
    omega
theorem RepRow.toV : ∀ {xs : List D} {e : TypeId} {b o : Nat}, RepRow P w S xs e b o → RowV P w S xs e b o
  | [], _, _, _, _ => by simp only [RowV]
  | d :: r, e, b, o, h => by
    simp only [RowV, RepRow] at h ⊢
    obtain ⟨vs, h1, h2, h3⟩ := h
    exact ⟨vs, fun j v hv => (h1 j v hv).1, h2, RepRow.toV h3⟩

/-! ### paths -/
theorem offsOk_get : ∀ {fs : List Field} {o i : Nat} {f : Field}, offsOk P o fs = true → fs[i]? = some f → f.offset = o + sumCells P ((fs.map (·.type)).take i)
  | [], o, i, f, h, hf => by simp at hf
  | g :: r, o, 0, f, h, hf => by
    simp only [offsOk, Bool.and_eq_true] at h
    simp at hf; subst hf
    simp only [List.map_cons, List.take_zero, sumCells, Nat.add_zero]
    exact Nat.eq_of_beq_eq_true h.1
  | g :: r, o, i + 1, f, h, hf => by
    simp only [offsOk, Bool.and_eq_true] at h
    simp at hf
    have := offsOk_get h.2 hf
    simp only [List.map_cons, List.take_succ_cons, sumCells]
    omega
theorem sumCells_take_replicate (n i : Nat) (e : TypeId) (h : i ≤ n) : sumCells P ((List.replicate n e).take i) = i * P.cellsOf e := by
  rw [List.take_replicate, Nat.min_eq_left h, sumCells_replicate]

theorem modify_set {α : Type} {ys : List α} {i : Nat} {y : α} (h : ys[i]? = some y) (f : α → α) : ys.modify i f = ys.set i (f y) := by
  apply List.ext_getElem?
  intro k
  rw [List.getElem?_modify, List.getElem?_set]
  have hi := (List.getElem?_eq_some_iff.1 h).1
  by_cases hk : i = k
  · subst hk
    have := (List.getElem?_eq_some_iff.1 h).2
    simp [hi, this]
  · simp [hk]
/-- a component found by its path, and replaced -/
theorem navD_ok (hP : tabOk P = true) {R : Type} : ∀ (p : List Nat) (x : D) (t : TypeId) (vs : List Value) (off : Nat) (u : TypeId) (K : D → Option R) (r : R),
    RepT P w S x t vs → offP P t p = some (off, u) → navD p x K = some r →
    ∃ y a v b, K y = some r ∧ vs = a ++ v ++ b ∧ a.length = off ∧ RepT P w S y u v ∧ ∀ y' v', RepT P w S y' u v' → RepT P w S (setD p x y') t (a ++ v' ++ b)
  | [], x, t, vs, off, u, K, r, h, ho, hn => by
    simp only [offP] at ho
    obtain ⟨dn, hdn, ho⟩ := Option.map_eq_some_iff.1 ho
    simp only [Prod.mk.injEq] at ho
    obtain ⟨rfl, rfl⟩ := ho
    simp only [navD] at hn
    refine ⟨x, [], vs, [], hn, by simp, rfl, h.under hP, fun y' v' h' => ?_⟩
    simp only [setD, List.nil_append, List.append_nil]
    obtain ⟨dd, hd⟩ := h.has
    exact h'.ty (hd.trans (underId_spec hP hd).1.symm)
  | i :: p, x, t, vs, off, u, K, r, h, ho, hn => by
    cases x with
    | agg ys =>
      simp only [navD, dAgg, lGet] at hn
      cases hy : ys[i]? with
      | none => simp [hy] at hn
      | some y =>
        simp only [hy] at hn
        have setEq : ∀ y', setD (i :: p) (.agg ys) y' = .agg (ys.set i (setD p y y')) := by
          intro y'
          cases p with
          | nil => simp only [setD]
          | cons j q =>
            simp only [setD]
            congr 1
            exact modify_set hy _
        simp only [RepT] at h
        rcases h with ⟨flds, h1, h2⟩ | ⟨n, e, h1, h2, h3⟩
        · simp only [offP, h1] at ho
          cases hf : flds[i]? with
          | none => simp [hf] at ho
          | some f =>
            simp only [hf] at ho
            obtain ⟨x1, hx1, hx2⟩ := Option.map_eq_some_iff.1 ho
            simp only [Prod.mk.injEq] at hx2
            have hfl : flds.toList[i]? = some f := by simpa using hf
            obtain ⟨a, v, b, rfl, ha, hv, hs⟩ := RepFs.get hP i h2 hy (t := f.type) (by simp [hfl])
            obtain ⟨y1, a1, v1, b1, hK, rfl, ha1, hv1, hs1⟩ := navD_ok hP p y f.type v x1.1 x1.2 K r hv (by rw [hx1]) hn
            refine ⟨y1, a ++ a1, v1, b1 ++ b, hK, by simp, ?_, hx2.2 ▸ hv1, fun y' v' h' => ?_⟩
            · rw [List.length_append, ha, ha1, ← hx2.1, offsOk_get (cells_struct hP h1).1 hfl]; omega
            · rw [setEq]
              simp only [RepT]
              refine .inl ⟨flds, h1, ?_⟩
              have := hs _ _ (hs1 y' v' (by rw [hx2.2]; exact h'))
              simpa [List.append_assoc] using this
        · simp only [offP, h1] at ho
          split at ho
          · rename_i hin
            obtain ⟨x1, hx1, hx2⟩ := Option.map_eq_some_iff.1 ho
            simp only [Prod.mk.injEq] at hx2
            obtain ⟨a, v, b, rfl, ha, hv, hs⟩ := RepFs.get hP i h3 hy (t := e) (by simp [hin])
            obtain ⟨y1, a1, v1, b1, hK, rfl, ha1, hv1, hs1⟩ := navD_ok hP p y e v x1.1 x1.2 K r hv (by rw [hx1]) hn
            refine ⟨y1, a ++ a1, v1, b1 ++ b, hK, by simp, ?_, hx2.2 ▸ hv1, fun y' v' h' => ?_⟩
            · rw [List.length_append, ha, ha1, ← hx2.1, sumCells_take_replicate _ _ _ (by omega)]
            · rw [setEq]
              simp only [RepT]
              refine .inr ⟨n, e, h1, by simpa using h2, ?_⟩
              have := hs _ _ (hs1 y' v' (by rw [hx2.2]; exact h'))
              simpa [List.append_assoc] using this
          · exact absurd ho (by simp)
    | _ => simp [navD, dAgg] at hn
end
end Go.Proofs.YtjbemleloffafaaDoor.V
