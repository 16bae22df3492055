/- Objects are moved: kept at a label, handed on in a call and handed back. -/
import Derived.Test.YtjbemleloffafaaDoorFrR
namespace Go.Proofs.YtjbemleloffafaaDoor.V
open Go
set_option linter.unusedVariables false
set_option linter.unusedSimpArgs false

theorem memN_iff {j : Nat} : ∀ {l : List Nat}, memN j l = true ↔ j ∈ l
  | [] => by simp [memN]
  | a :: r => by
    simp only [memN, Bool.or_eq_true, List.mem_cons, memN_iff (l := r)]
    constructor
    · rintro (h | h)
      · exact .inl (beq_id h).symm
      · exact .inr h
    · rintro (h | h)
      · subst h; exact .inl (Nat.beq_refl _)
      · exact .inr h
theorem posN_lt {j : Nat} : ∀ {l : List Nat}, j ∈ l → posN j l < l.length ∧ l[posN j l]? = some j
  | [], h => by cases h
  | a :: r, h => by
    simp only [posN]
    cases hb : Nat.beq a j with
    | true => obtain rfl := beq_id hb; simp
    | false =>
      have hne : a ≠ j := fun e => by subst e; simp at hb
      have hr : j ∈ r := by rcases List.mem_cons.1 h with e | e; exact absurd e.symm hne; exact e
      obtain ⟨h1, h2⟩ := posN_lt hr
      simp only [cond_false, List.length_cons, List.getElem?_cons_succ]
      exact ⟨by omega, h2⟩
theorem nodupN_spec : ∀ {l : List Nat}, nodupN l = true → l.Nodup
  | [], _ => List.nodup_nil
  | a :: r, h => by
    simp only [nodupN, Bool.and_eq_true, Bool.not_eq_true'] at h
    exact List.nodup_cons.2 ⟨fun hm => by rw [memN_iff.2 hm] at h; simp at h, nodupN_spec h.2⟩
theorem allIn_spec {ord : List Nat} : ∀ {l : List Nat}, allIn ord l = true → ∀ j ∈ l, j ∈ ord
  | [], _, j, hj => by cases hj
  | a :: r, h, j, hj => by
    simp only [allIn, Bool.and_eq_true] at h
    rcases List.mem_cons.1 hj with e | e
    · subst e; exact memN_iff.1 h.1
    · exact allIn_spec h.2 j e
theorem allO_spec {ord : List Nat} {ob : Objs} : ∀ {l : List Nat}, allO ord ob l = true → ∀ i ∈ l, ∀ j ∈ idsO (ob.getD i none), j ∈ ord
  | [], _, j, hj => by cases hj
  | a :: r, h, i, hi => by
    simp only [allO, Bool.and_eq_true] at h
    rcases List.mem_cons.1 hi with e | e
    · subst e; exact allIn_spec h.1
    · exact allO_spec h.2 i e

section
variable {P : Program} {w : World} {S : Addr → Prop} {σ σ' : Loc} {ob ob' : Objs} {g : Nat → Nat}

/-- object j has gone to place g j -/
def Moved (σ : Loc) (ob : Objs) (σ' : Loc) (ob' : Objs) (g : Nat → Nat) (j : Nat) : Prop :=
  j < ob.length → g j < ob'.length ∧ σ' (g j) = σ j ∧ ob'[g j]? = some (renO g (ob.getD j none))
theorem fits_ren (t : TypeId) (a : AV) : fits P t (renA g a) = fits P t a := by
  cases a <;> simp only [renA] <;> unfold fits isTy <;> cases ds P t <;> rfl
def renB (g : Nat → Nat) : Obj → Obj
  | .box t v => .box t (renA g v)
  | .arr e xs fz => .arr e xs fz
theorem getD_of {j : Nat} {o : Option Obj} (hl : j < ob.length) (h : ob.getD j none = o) : ob[j]? = some o := by
  rw [List.getD_eq_getElem?_getD, List.getElem?_eq_getElem hl] at h
  rw [List.getElem?_eq_getElem hl]
  simpa using h
mutual
theorem RepA.ren : ∀ (a : AV) (v : Value), (∀ j ∈ idsA a, Moved σ ob σ' ob' g j) → RepA P w S σ ob a v → RepA P w S σ' ob' (renA g a) v
  | .undef, v, hm, h => by simp only [renA, RepA]
  | .i _ _, v, hm, h => by simpa only [renA, RepA] using h
  | .b _, v, hm, h => by simpa only [renA, RepA] using h
  | .s _, v, hm, h => by simpa only [renA, RepA] using h
  | .snil, v, hm, h => by simpa only [renA, RepA] using h
  | .sl e cp xs, v, hm, h => by simpa only [renA, RepA] using h
  | .d t x, v, hm, h => by simpa only [renA, RepA] using h
  | .vp t x, v, hm, h => by simpa only [renA, RepA] using h
  | .pnil, v, hm, h => by simpa only [renA, RepA] using h
  | .err _, v, hm, h => by simpa only [renA, RepA] using h
  | .ptr j p t, v, hm, h => by
    simp only [renA, RepA] at h ⊢
    obtain ⟨hl, b, off, hv, h⟩ := h
    obtain ⟨m1, m2, m3⟩ := hm j (by simp [idsA]) hl
    refine ⟨m1, b, off, hv, fun tj c hc => ?_⟩
    rw [m3] at hc
    cases ho : ob.getD j none with
    | none => rw [ho] at hc; simp [renO] at hc
    | some o =>
      rw [ho] at hc
      cases o with
      | box t0 c0 =>
        simp only [renO, Option.some.injEq, Obj.box.injEq] at hc
        obtain ⟨rfl, rfl⟩ := hc
        rw [m2]
        exact h t0 c0 (getD_of hl ho)
      | arr _ _ _ => simp [renO] at hc
  | .ref e j, v, hm, h => by
    simp only [renA, RepA] at h ⊢
    obtain ⟨hl, b, n, cap, hv, h⟩ := h
    obtain ⟨m1, m2, m3⟩ := hm j (by simp [idsA]) hl
    refine ⟨m1, b, n, cap, hv, fun e' xs fz hc => ?_⟩
    rw [m3] at hc
    cases ho : ob.getD j none with
    | none => rw [ho] at hc; simp [renO] at hc
    | some o =>
      rw [ho] at hc
      cases o with
      | box t0 c0 => simp [renO] at hc
      | arr e0 x0 f0 =>
        simp only [renO, Option.some.injEq, Obj.arr.injEq] at hc
        obtain ⟨rfl, rfl, rfl⟩ := hc
        rw [m2]
        exact h _ _ _ (getD_of hl ho)
  | .ap j i p t, v, hm, h => by
    simp only [renA, RepA] at h ⊢
    obtain ⟨hl, b, off, hv, h⟩ := h
    obtain ⟨m1, m2, m3⟩ := hm j (by simp [idsA]) hl
    refine ⟨m1, b, off, hv, fun e' xs fz hc => ?_⟩
    rw [m3] at hc
    cases ho : ob.getD j none with
    | none => rw [ho] at hc; simp [renO] at hc
    | some o =>
      rw [ho] at hc
      cases o with
      | box t0 c0 => simp [renO] at hc
      | arr e0 x0 f0 =>
        simp only [renO, Option.some.injEq, Obj.arr.injEq] at hc
        obtain ⟨rfl, rfl, rfl⟩ := hc
        rw [m2]
        exact h _ _ _ (getD_of hl ho)
  | .fn f caps, v, hm, h => by
    simp only [renA, RepA] at h ⊢
    obtain ⟨cs, h1, h2⟩ := h
    exact ⟨cs, h1, RepAs.ren caps cs (by simpa only [idsA] using hm) h2⟩
  | .agg t l, v, hm, h => by
    simp only [renA, RepA] at h ⊢
    obtain ⟨cs, flds, h1, h2, h3⟩ := h
    exact ⟨cs, flds, h1, h2, RepAg.ren l _ cs (by simpa only [idsA] using hm) h3⟩
  | .tuple l, v, hm, h => by
    simp only [renA, RepA] at h ⊢
    obtain ⟨cs, h1, h2⟩ := h
    exact ⟨cs, h1, RepAs.ren l cs (by simpa only [idsA] using hm) h2⟩
theorem RepAs.ren : ∀ (l : List AV) (vs : List Value), (∀ j ∈ idsL l, Moved σ ob σ' ob' g j) → RepAs P w S σ ob l vs → RepAs P w S σ' ob' (renL g l) vs
  | [], vs, hm, h => by simpa only [renL, RepAs] using h
  | a :: r, vs, hm, h => by
    simp only [renL, RepAs] at h ⊢
    simp only [idsL, List.mem_append] at hm
    obtain ⟨v, vs', h1, h2, h3⟩ := h
    exact ⟨v, vs', h1, RepA.ren a v (fun j hj => hm j (.inl hj)) h2, RepAs.ren r vs' (fun j hj => hm j (.inr hj)) h3⟩
theorem RepAg.ren : ∀ (l : List AV) (ts : List TypeId) (vs : List Value), (∀ j ∈ idsL l, Moved σ ob σ' ob' g j) → RepAg P w S σ ob l ts vs → RepAg P w S σ' ob' (renL g l) ts vs
  | [], ts, vs, hm, h => by simpa only [renL, RepAg] using h
  | a :: r, ts, vs, hm, h => by
    simp only [renL, RepAg] at h ⊢
    simp only [idsL, List.mem_append] at hm
    obtain ⟨t, ts', v, vs', h1, h2, h3, h4, h5, h6⟩ := h
    exact ⟨t, ts', v, vs', h1, h2, h3, by rw [fits_ren]; exact h4, RepA.ren a v (fun j hj => hm j (.inl hj)) h5, RepAg.ren r ts' vs' (fun j hj => hm j (.inr hj)) h6⟩
end
theorem ObjAt.ren {j : Nat} {o : Obj} (hj : σ' (g j) = σ j) (hm : ∀ i ∈ idsO (some o), Moved σ ob σ' ob' g i) (h : ObjAt P w S σ ob j o) : ObjAt P w S σ' ob' (g j) (renB g o) := by
  cases o with
  | box t v =>
    simp only [renB, ObjAt, hj] at h ⊢
    obtain ⟨vs, el, fr, h1, h2, h3, h4, ⟨h5, u, h6, h7⟩, h8, h9⟩ := h
    exact ⟨vs, el, fr, h1, h2, h3, h4, ⟨by rw [fits_ren]; exact h5, u, h6, RepA.ren v u (fun i hi => hm i (by simpa only [idsO] using hi)) h7⟩, h8, h9⟩
  | arr e xs fz =>
    simp only [renB, ObjAt, hj] at h ⊢
    exact h
theorem renO_some {g : Nat → Nat} {x : Option Obj} {o : Obj} (h : renO g x = some o) : ∃ o0, x = some o0 ∧ o = renB g o0 := by
  cases x with
  | none => simp [renO] at h
  | some o0 => cases o0 <;> (simp only [renO, Option.some.injEq] at h; exact ⟨_, rfl, by simp only [renB]; exact h.symm⟩)
theorem reach_pre {ob : Objs} : ∀ (n : Nat) (l acc : List Nat), ∃ r, reach ob n l acc = acc ++ r
  | 0, l, acc => ⟨[], by simp [reach]⟩
  | n + 1, [], acc => ⟨[], by simp [reach]⟩
  | n + 1, j :: r, acc => by
    simp only [reach]
    cases memN j acc with
    | true => exact reach_pre n r acc
    | false =>
      obtain ⟨x, hx⟩ := reach_pre (ob := ob) n (idsO (ob.getD j none) ++ r) (acc ++ [j])
      exact ⟨j :: x, by simp only [cond_false]; rw [hx]; simp⟩
theorem clsd_spec {ord ids : List Nat} (h : clsd ob ord ids = true) : ord.Nodup ∧ (∀ j ∈ ids, j ∈ ord) ∧ ∀ i ∈ ord, ∀ j ∈ idsO (ob.getD i none), j ∈ ord := by
  simp only [clsd, Bool.and_eq_true] at h
  exact ⟨nodupN_spec h.1.1, allIn_spec h.1.2, allO_spec h.2⟩

/-- objects in another order -/
theorem move_objs {ord : List Nat} (hnd : ord.Nodup) (hob : ∀ i ∈ ord, ∀ j ∈ idsO (ob.getD i none), j ∈ ord) (ho : ∀ j o, ob[j]? = some (some o) → ObjAt P w S σ ob j o)
    (ha : ∀ j j' o o', ob[j]? = some (some o) → ob[j']? = some (some o') → j ≠ j' → (σ j).1 ≠ (σ j').1) {g : Nat → Nat} (hg : g = fun j => posN j ord) {ob' : Objs} (hob' : ob' = ord.map fun j => renO g (ob.getD j none)) {σ' : Loc} (hσ' : σ' = fun k => σ (ord.getD k 0)) :
    (∀ j ∈ ord, Moved σ ob σ' ob' g j) ∧ (∀ k o', ob'[k]? = some (some o') → ∃ j o, ord[k]? = some j ∧ ob[j]? = some (some o) ∧ o' = renB g o ∧ σ' k = σ j) ∧ (∀ k o', ob'[k]? = some (some o') → ObjAt P w S σ' ob' k o') ∧
    ∀ j j' o o', ob'[j]? = some (some o) → ob'[j']? = some (some o') → j ≠ j' → (σ' j).1 ≠ (σ' j').1 := by
  subst hg
  have hmv : ∀ j ∈ ord, Moved σ ob σ' ob' (fun j => posN j ord) j := fun j hj hl => by
    obtain ⟨h1, h2⟩ := posN_lt hj
    refine ⟨by simpa [hob'] using h1, ?_, ?_⟩
    · simp only [hσ', List.getD_eq_getElem?_getD, h2, Option.getD_some]
    · simp only [hob', List.getElem?_map, h2, Option.map_some]
  have hget : ∀ (k : Nat) (o' : Obj), ob'[k]? = some (some o') → ∃ j o, ord[k]? = some j ∧ ob[j]? = some (some o) ∧ o' = renB (fun j => posN j ord) o ∧ σ' k = σ j := fun k o' hk => by
    simp only [hob', List.getElem?_map] at hk
    obtain ⟨j, hj, hk⟩ := Option.map_eq_some_iff.1 hk
    obtain ⟨o, ho, rfl⟩ := renO_some hk
    have hjl : j < ob.length := by
      rcases Nat.lt_or_ge j ob.length with hl | hl
      · exact hl
      · rw [List.getD_eq_getElem?_getD, List.getElem?_eq_none hl] at ho; simp at ho
    exact ⟨j, o, hj, getD_of hjl ho, rfl, by simp only [hσ', List.getD_eq_getElem?_getD, hj, Option.getD_some]⟩
  refine ⟨hmv, hget, ?_, ?_⟩
  · intro k o' hk
    obtain ⟨j, o, hj, hoj, rfl, hs⟩ := hget k o' hk
    have hjm := List.mem_of_getElem? hj
    have hpk : posN j ord = k := by
      obtain ⟨h1, h2⟩ := posN_lt hjm
      exact (List.getElem?_inj h1 hnd).1 (h2.trans hj.symm)
    have := (ho j o hoj).ren (σ' := σ') (ob' := ob') (g := fun j => posN j ord) (by simp only [hpk]; exact hs) (fun i hi => hmv i (hob j hjm i (by
      have : ob.getD j none = some o := by rw [List.getD_eq_getElem?_getD, hoj]; rfl
      rw [this]; exact hi)))
    simpa only [hpk] using this
  · intro k k' o1 o2 h1 h2 hne
    obtain ⟨j, o, hj, hoj, _, hs⟩ := hget k o1 h1
    obtain ⟨j', o', hj', hoj', _, hs'⟩ := hget k' o2 h2
    rw [hs, hs']
    refine ha j j' o o' hoj hoj' fun e => hne ?_
    subst e
    have hl : k < ord.length := (List.getElem?_eq_some_iff.1 hj).1
    exact (List.getElem?_inj hl hnd).1 (hj.trans hj'.symm)
end

section
variable {Γ : Ctx} {w0 : World} {S0 : Addr → Prop} {X : XB} {w w' : World} {S S' : Addr → Prop} {σ σ' : Loc} {ob ob' : Objs}

/-- the objects of a call: the callee's own blocks -/
def subX (σ : Loc) (ob : Objs) (ord rts : List Nat) : XB := ⟨rts.map σ, fun b => ∃ j o, j ∈ ord ∧ ob[j]? = some (some o) ∧ (σ j).1 = b⟩
/-- what a callee is handed -/
theorem sub_ok (hM : MemOK Γ w0 S0 X w S σ ob) {ord rts : List Nat} (hnd : ord.Nodup) (hob : ∀ i ∈ ord, ∀ j ∈ idsO (ob.getD i none), j ∈ ord) (hpre : ∃ r, ord = rts ++ r) :
    MemOK Γ w S (subX σ ob ord rts) w S (fun k => σ (ord.getD k 0)) (ord.map fun j => renO (fun j => posN j ord) (ob.getD j none)) ∧
    ∀ j ∈ ord, Moved σ ob (fun k => σ (ord.getD k 0)) (ord.map fun j => renO (fun j => posN j ord) (ob.getD j none)) (fun j => posN j ord) j := by
  obtain ⟨h1, h2, h3, h4⟩ := move_objs hnd hob hM.objs hM.apart rfl rfl rfl
  refine ⟨{ objs := h3, apart := h4, own := ?_, old := fun _ _ _ => rfl, grow := Nat.le_refl _, s0 := fun _ h => h, snew := fun _ h => .inl h, sin := hM.sin, glob := hM.glob, env := ⟨rfl, rfl⟩, kept := Keeps.refl w S, root := ?_ }, h1⟩
  · intro k o' hk
    obtain ⟨j, o, hj, hoj, _, hs⟩ := h2 k o' hk
    rw [hs]
    exact ⟨.inl ⟨j, o, List.mem_of_getElem? hj, hoj, rfl⟩, (hM.own j o hoj).2⟩
  · intro k p hk
    obtain ⟨r, rfl⟩ := hpre
    simp only [subX, List.getElem?_map] at hk
    obtain ⟨j, hj, rfl⟩ := Option.map_eq_some_iff.1 hk
    have hl : k < rts.length := (List.getElem?_eq_some_iff.1 hj).1
    refine ⟨by simp; omega, ?_⟩
    rw [List.getD_eq_getElem?_getD, List.getElem?_append_left hl, hj]; rfl

theorem kill_len (ob : Objs) : ∀ l : List Nat, (killAll ob l).length = ob.length
  | [] => rfl
  | j :: r => by simp [killAll, kill_len ob r]
theorem kill_get {ob : Objs} {j : Nat} : ∀ {l : List Nat}, j ∉ l → (killAll ob l)[j]? = ob[j]?
  | [], _ => rfl
  | a :: r, h => by
    simp only [List.mem_cons, not_or] at h
    simp only [killAll]
    rw [List.getElem?_set_ne (fun e => h.1 e.symm), kill_get h.2]
theorem kill_in {ob : Objs} {j : Nat} (hj : j < ob.length) : ∀ {l : List Nat}, j ∈ l → (killAll ob l)[j]? = some none
  | a :: r, h => by
    simp only [killAll]
    by_cases e : a = j
    · subst e; rw [List.getElem?_set_self (by rw [kill_len]; exact hj)]
    · rw [List.getElem?_set_ne e]
      exact kill_in hj (by rcases List.mem_cons.1 h with h | h; exact absurd h.symm e; exact h)
theorem put_len (g : Nat → Nat) : ∀ (ob : Objs) (l : List Nat) (os : Objs), (putRoots g ob l os).length = ob.length
  | ob, [], os => by simp [putRoots]
  | ob, j :: r, [] => by simp [putRoots]
  | ob, j :: r, o :: os => by simp [putRoots, put_len g _ r os]
theorem put_get {g : Nat → Nat} {j : Nat} : ∀ {ob : Objs} {l : List Nat} {os : Objs}, j ∉ l → (putRoots g ob l os)[j]? = ob[j]?
  | ob, [], os, _ => by simp [putRoots]
  | ob, a :: r, [], _ => by simp [putRoots]
  | ob, a :: r, o :: os, h => by
    simp only [List.mem_cons, not_or] at h
    simp only [putRoots]
    rw [put_get h.2, List.getElem?_set_ne (fun e => h.1 e.symm)]
theorem put_in {g : Nat → Nat} {j : Nat} {o : Option Obj} : ∀ {ob : Objs} {l : List Nat} {os : Objs} {i : Nat}, l.Nodup → l[i]? = some j → os[i]? = some o → j < ob.length → (putRoots g ob l os)[j]? = some (renO g o)
  | ob, [], os, i, _, h, _, _ => by simp at h
  | ob, a :: r, [], i, _, _, h, _ => by simp at h
  | ob, a :: r, x :: os, 0, hn, h1, h2, hl => by
    simp only [List.getElem?_cons_zero, Option.some.injEq] at h1 h2
    subst h1; subst h2
    simp only [putRoots]
    rw [put_get (List.nodup_cons.1 hn).1, List.getElem?_set_self hl]
  | ob, a :: r, x :: os, i + 1, hn, h1, h2, hl => by
    simp only [List.getElem?_cons_succ] at h1 h2
    simp only [putRoots]
    exact put_in (List.nodup_cons.1 hn).2 h1 h2 (by simpa using hl)
theorem same_spec {ob : Objs} : ∀ {l : List Nat} {os : Objs}, sameBoxes ob l os = true → l.length ≤ os.length ∧ ∀ (i j : Nat), l[i]? = some j → ∃ t v v', ob[j]? = some (some (.box t v)) ∧ os[i]? = some (some (.box t v'))
  | [], os, _ => ⟨by simp, fun i j h => by simp at h⟩
  | a :: r, [], h => by simp [sameBoxes] at h
  | a :: r, none :: os, h => by simp [sameBoxes] at h
  | a :: r, some (.arr _ _ _) :: os, h => by simp [sameBoxes] at h
  | a :: r, some (.box t v') :: os, h => by
    simp only [sameBoxes, Bool.and_eq_true] at h
    obtain ⟨g1, g2⟩ := same_spec h.2
    refine ⟨by simp; omega, fun i j hi => ?_⟩
    cases i with
    | zero =>
      simp only [List.getElem?_cons_zero, Option.some.injEq] at hi
      subst hi
      have h1 := h.1
      split at h1
      · rename_i t0 v0 hv
        obtain rfl := beq_id h1
        exact ⟨_, v0, v', hv, rfl⟩
      · simp at h1
    | succ i => simpa using g2 i j (by simpa using hi)

/-- what a callee hands back -/
theorem back_ok (hM : MemOK Γ w0 S0 X w S σ ob) {ord rts : List Nat} (hnd : ord.Nodup) (hpre : ∃ r, ord = rts ++ r) {obs : Objs} {σ2 : Loc} (hM2 : MemOK Γ w S (subX σ ob ord rts) w' S' σ2 obs) (hk : Keeps w S w' S')
    (hsame : sameBoxes ob rts obs = true) :
    ∃ σ'', Trans Γ w0 S0 X w S σ ob w' S' σ'' (putRoots (backN rts ob.length) (killAll ob ord) rts obs ++ (obs.drop rts.length).map (renO (backN rts ob.length))) ∧
      ∀ a v, RepA Γ.P w' S' σ2 obs a v → RepA Γ.P w' S' σ'' (putRoots (backN rts ob.length) (killAll ob ord) rts obs ++ (obs.drop rts.length).map (renO (backN rts ob.length))) (renA (backN rts ob.length) a) v := by
  obtain ⟨hle, hbox⟩ := same_spec hsame
  generalize hg : backN rts ob.length = g
  generalize hob2 : putRoots g (killAll ob ord) rts obs ++ (obs.drop rts.length).map (renO g) = ob2
  let σ'' : Loc := fun j => if j < ob.length then σ j else σ2 (rts.length + (j - ob.length))
  have hrin : ∀ j ∈ rts, j ∈ ord := fun j hj => by obtain ⟨r, rfl⟩ := hpre; simp [hj]
  have hrnd : rts.Nodup := by obtain ⟨r, rfl⟩ := hpre; exact (List.nodup_append.1 hnd).1
  have hlen1 : (putRoots g (killAll ob ord) rts obs).length = ob.length := by rw [put_len, kill_len]
  have hlen2 : ob2.length = ob.length + (obs.length - rts.length) := by rw [← hob2]; simp [hlen1]
  have hrl : ∀ i j, rts[i]? = some j → j < ob.length := fun i j h => by obtain ⟨t, v, v', h1, _⟩ := hbox i j h; exact lt_of_get h1
  have gr : ∀ i j, rts[i]? = some j → g i = j := fun i j h => by rw [← hg]; simp only [backN, h]
  have gn : ∀ i, rts.length ≤ i → g i = ob.length + (i - rts.length) := fun i h => by rw [← hg]; simp only [backN, List.getElem?_eq_none h]
  have hold : ∀ j, j < ob.length → σ'' j = σ j := fun j h => by simp only [σ'', if_pos h]
  -- places
  have pNot : ∀ j, j < ob.length → j ∉ ord → ob2[j]? = ob[j]? := fun j hl hj => by
    rw [← hob2, List.getElem?_append_left (by rw [hlen1]; exact hl), put_get (fun h => hj (hrin j h)), kill_get hj]
  have pKill : ∀ j, j < ob.length → j ∈ ord → j ∉ rts → ob2[j]? = some none := fun j hl hj hr => by
    rw [← hob2, List.getElem?_append_left (by rw [hlen1]; exact hl), put_get hr, kill_in hl hj]
  have pNew : ∀ i, i < obs.length → g i < ob2.length ∧ ob2[g i]? = some (renO g (obs.getD i none)) := fun i hi => by
    have hgd : obs[i]? = some (obs.getD i none) := by rw [List.getD_eq_getElem?_getD, List.getElem?_eq_getElem hi]; rfl
    rcases Nat.lt_or_ge i rts.length with hr | hr
    · obtain ⟨j, hj⟩ : ∃ j, rts[i]? = some j := ⟨_, List.getElem?_eq_getElem hr⟩
      have hjl := hrl i j hj
      rw [gr i j hj]
      refine ⟨by omega, ?_⟩
      rw [← hob2, List.getElem?_append_left (by rw [hlen1]; exact hjl)]
      exact put_in hrnd hj hgd (by rw [kill_len]; exact hjl)
    · rw [gn i hr]
      refine ⟨by omega, ?_⟩
      rw [← hob2, List.getElem?_append_right (by rw [hlen1]; omega), hlen1, List.getElem?_map, List.getElem?_drop]
      rw [show rts.length + (ob.length + (i - rts.length) - ob.length) = i by omega, hgd]; rfl
  have hmv : ∀ i, Moved σ2 obs σ'' ob2 g i := fun i hi => by
    obtain ⟨h1, h2⟩ := pNew i hi
    refine ⟨h1, ?_, h2⟩
    rcases Nat.lt_or_ge i rts.length with hr | hr
    · obtain ⟨j, hj⟩ : ∃ j, rts[i]? = some j := ⟨_, List.getElem?_eq_getElem hr⟩
      rw [gr i j hj, hold j (hrl i j hj)]
      exact (hM2.root i (σ j) (by simp only [subX, List.getElem?_map, hj]; rfl)).2.symm
    · rw [gn i hr]
      simp only [σ'']
      rw [if_neg (by omega), show rts.length + (ob.length + (i - rts.length) - ob.length) = i by omega]
  have st : Stays σ ob σ'' ob2 := by
    refine ⟨by omega, fun j hj o' ho => ?_⟩
    by_cases hin : j ∈ ord
    · by_cases hr : j ∈ rts
      · obtain ⟨i, hi⟩ := List.mem_iff_getElem?.1 hr
        obtain ⟨t, v, v', h1, h2⟩ := hbox i j hi
        have hil : i < obs.length := (List.getElem?_eq_some_iff.1 h2).1
        have := (pNew i hil).2
        rw [gr i j hi, ho, List.getD_eq_getElem?_getD, h2] at this
        simp only [Option.getD_some, renO, Option.some.injEq] at this
        subst this
        exact ⟨_, h1, hold j hj, rfl⟩
      · rw [pKill j hj hin hr] at ho; simp at ho
    · rw [pNot j hj hin] at ho
      exact ⟨o', ho, hold j hj, by cases o' <;> simp⟩
  -- which object it is
  have which : ∀ j o, ob2[j]? = some (some o) → (j < ob.length ∧ j ∉ ord ∧ ob[j]? = some (some o)) ∨ ∃ i o0, j = g i ∧ obs[i]? = some (some o0) ∧ o = renB g o0 ∧ σ'' j = σ2 i := fun j o ho => by
    have aux : ∀ i, i < obs.length → j = g i → ∃ i o0, j = g i ∧ obs[i]? = some (some o0) ∧ o = renB g o0 ∧ σ'' j = σ2 i := fun i hi hj => by
      have h1 := hmv i hi
      rw [← hj, ho] at h1
      obtain ⟨_, hs, h2⟩ := h1
      obtain ⟨o0, h3, h4⟩ := renO_some (Option.some.inj h2).symm
      exact ⟨i, o0, hj, getD_of hi h3, h4, hs⟩
    rcases Nat.lt_or_ge j ob.length with hl | hl
    · by_cases hin : j ∈ ord
      · by_cases hr : j ∈ rts
        · obtain ⟨i, hi⟩ := List.mem_iff_getElem?.1 hr
          obtain ⟨t, v, v', h1, h2⟩ := hbox i j hi
          exact .inr (aux i (List.getElem?_eq_some_iff.1 h2).1 (gr i j hi).symm)
        · rw [pKill j hl hin hr] at ho; simp at ho
      · exact .inl ⟨hl, hin, by rw [← pNot j hl hin]; exact ho⟩
    · have hj2 := lt_of_get ho
      exact .inr (aux (rts.length + (j - ob.length)) (by omega) (by rw [gn _ (by omega)]; omega))
  have hrep : ∀ a v, RepA Γ.P w S σ ob a v → RepA Γ.P w' S' σ'' ob2 a v := fun a v r => RepA.keep hk st a v r
  have hown2 : ∀ b, (subX σ ob ord rts) b → (X b ∨ w0.heap.size ≤ b) ∧ b < w.heap.size := fun b hb => by
    obtain ⟨j, o, _, h1, rfl⟩ := hb
    exact hM.own j o h1
  have hapart2 : ∀ j o, j ∉ ord → ob[j]? = some (some o) → ¬ (subX σ ob ord rts) (σ j).1 := fun j o hj ho hb => by
    obtain ⟨j', o', h1, h2, h3⟩ := hb
    exact hM.apart j' j o' o h2 ho (fun e => hj (e ▸ h1)) h3
  refine ⟨σ'', ⟨?_, hrep, hk⟩, fun a v r => RepA.ren a v (fun i _ => hmv i) r⟩
  refine { objs := ?_, apart := ?_, own := ?_, old := ?_, grow := Nat.le_trans hM.grow hM2.grow, s0 := fun a ha => hM2.s0 a (hM.s0 a ha), snew := ?_, sin := hM2.sin, glob := hM2.glob, env := ⟨hM2.env.1.trans hM.env.1, hM2.env.2.trans hM.env.2⟩, kept := hM.kept.trans hk, root := ?_ }
  · intro j o ho
    rcases which j o ho with ⟨hl, hin, h1⟩ | ⟨i, o0, rfl, h1, rfl, hs⟩
    · have hx := hapart2 j o hin h1
      refine (hM.objs j o h1).keep hk st (hold j hl) (hM2.old _ (hM.own j o h1).2 hx) fun x hx' hb => ?_
      rcases hM2.snew x hx' with h | h | h
      · exact h
      · rw [hb] at h; exact absurd h hx
      · have := (hM.own j o h1).2; omega
    · exact (hM2.objs i o0 h1).ren hs (fun i _ => hmv i)
  · intro j j' o o' h h' hne
    rcases which j o h with ⟨hl, hin, h1⟩ | ⟨i, o0, hj, h1, _, hs⟩ <;> rcases which j' o' h' with ⟨hl', hin', h1'⟩ | ⟨i', o0', hj', h1', _, hs'⟩
    · rw [hold j hl, hold j' hl']; exact hM.apart j j' o o' h1 h1' hne
    · rw [hold j hl, hs']
      intro e
      rcases (hM2.own i' o0' h1').1 with hx | hx
      · rw [← e] at hx; exact hapart2 j o hin h1 hx
      · have := (hM.own j o h1).2; omega
    · rw [hold j' hl', hs]
      intro e
      rcases (hM2.own i o0 h1).1 with hx | hx
      · rw [e] at hx; exact hapart2 j' o' hin' h1' hx
      · have := (hM.own j' o' h1').2; omega
    · rw [hs, hs']
      exact hM2.apart i i' o0 o0' h1 h1' fun e => hne (by rw [hj, hj', e])
  · intro j o ho
    rcases which j o ho with ⟨hl, hin, h1⟩ | ⟨i, o0, _, h1, _, hs⟩
    · rw [hold j hl]
      have := hM.own j o h1
      exact ⟨this.1, Nat.lt_of_lt_of_le this.2 hM2.grow⟩
    · rw [hs]
      have := hM2.own i o0 h1
      refine ⟨?_, this.2⟩
      rcases this.1 with hx | hx
      · exact (hown2 _ hx).1
      · exact .inr (Nat.le_trans hM.grow hx)
  · intro b hb hX
    rw [hM2.old b (Nat.lt_of_lt_of_le hb hM.grow) (fun hx => by
      rcases (hown2 b hx).1 with h | h
      · exact hX h
      · omega), hM.old b hb hX]
  · intro a ha
    rcases hM2.snew a ha with h | h | h
    · exact hM.snew a h
    · exact .inr (hown2 _ h).1
    · exact .inr (.inr (Nat.le_trans hM.grow h))
  · intro k p hkp
    obtain ⟨h1, h2⟩ := hM.root k p hkp
    exact ⟨by omega, by rw [hold k h1]; exact h2⟩
end
end Go.Proofs.YtjbemleloffafaaDoor.V
