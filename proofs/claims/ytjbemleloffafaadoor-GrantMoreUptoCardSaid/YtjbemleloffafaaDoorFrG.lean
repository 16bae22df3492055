/- How the memory may go on: what is new, what is stored, what is frozen. -/
import Derived.Test.YtjbemleloffafaaDoorFrF
namespace Go.Proofs.YtjbemleloffafaaDoor.V
open Go
set_option linter.unusedVariables false
set_option linter.unusedSimpArgs false

theorem cell_of_heap {w w' : World} {a : Addr} (h : w'.heap[a.block]? = w.heap[a.block]?) : w'.cell? a = w.cell? a := by
  unfold World.cell?; rw [h]
theorem frozen_of_heap {w w' : World} {a : Addr} (h : w'.heap[a.block]? = w.heap[a.block]?) : w'.frozen? a = w.frozen? a := by
  unfold World.frozen?; rw [h]

section
variable {Γ : Ctx} {w0 : World} {S0 : Addr → Prop} {X : XB} {w w' : World} {S S' : Addr → Prop} {σ σ' : Loc} {ob ob' : Objs}

theorem Trans.refl (h : MemOK Γ w0 S0 X w S σ ob) : Trans Γ w0 S0 X w S σ ob w S σ ob := ⟨h, fun _ _ h => h, Keeps.refl w S⟩
theorem Trans.trans {w'' S'' σ'' ob''} (h : Trans Γ w0 S0 X w S σ ob w' S' σ' ob') (h' : Trans Γ w0 S0 X w' S' σ' ob' w'' S'' σ'' ob'') : Trans Γ w0 S0 X w S σ ob w'' S'' σ'' ob'' :=
  ⟨h'.1, fun a v r => h'.2 a v (h.2 a v r), h.3.trans h'.3⟩

theorem RowV.of_heap {P : Program} (k : Keeps w S w' S') {xs : List D} {e : TypeId} {b o : Nat} (hb : w'.heap[b]? = w.heap[b]?) (h : RowV P w S xs e b o) : RowV P w' S' xs e b o :=
  RowV.keep k (fun n => cell_of_heap hb) h

/-- an object whose block is as it was, S being larger elsewhere -/
theorem ObjAt.keep {P : Program} {j : Nat} {o : Obj} (k : Keeps w S w' S') (st : Stays σ ob σ' ob') (hs : σ' j = σ j) (hb : w'.heap[(σ j).1]? = w.heap[(σ j).1]?)
    (hS : ∀ x : Addr, S' x → x.block = (σ j).1 → S x) (h : ObjAt P w S σ ob j o) : ObjAt P w' S' σ' ob' j o := by
  cases o with
  | box t a =>
    simp only [ObjAt, hs] at h ⊢
    obtain ⟨vs, el, fr, h1, h2, h3, h4, h5, h6, h7⟩ := h
    exact ⟨vs, el, fr, by rw [hb]; exact h1, h2, h3, h4, h5.keep k st, h6, fun x hx hxb => h7 x (hS x hx hxb) hxb⟩
  | arr e xs fz =>
    simp only [ObjAt, hs] at h ⊢
    obtain ⟨cs, el, fr, h1, h2, h3, h4, h5, h6, h7⟩ := h
    exact ⟨cs, el, fr, by rw [hb]; exact h1, h2, h3, h4, h5.of_heap k hb, h6, fun x hx hxb => h7 x (hS x hx hxb) hxb⟩

/-- (a) new blocks, of which some may be data -/
theorem MemOK.more (h : MemOK Γ w0 S0 X w S σ ob) (hb : ∀ b, b < w.heap.size → w'.heap[b]? = w.heap[b]?) (hg : w.heap.size ≤ w'.heap.size)
    (hS : ∀ a, S a → S' a) (hS' : ∀ a, S' a → S a ∨ (w.heap.size ≤ a.block ∧ a.block < w'.heap.size)) (he : w'.os = w.os ∧ w'.output = w.output := by exact ⟨rfl, rfl⟩) : Trans Γ w0 S0 X w S σ ob w' S' σ ob := by
  have k : Keeps w S w' S' := fun a ha => ⟨cell_of_heap (hb _ (h.sin a ha)), hS a ha⟩
  refine ⟨?_, fun a v r => RepA.keep k (Stays.refl σ ob) a v r, k⟩
  refine { objs := ?_, apart := h.apart, own := ?_, old := ?_, grow := Nat.le_trans h.grow hg, s0 := fun a ha => hS a (h.s0 a ha), snew := ?_, sin := ?_, glob := ?_, env := ⟨he.1.trans h.env.1, he.2.trans h.env.2⟩, kept := h.kept.trans k, root := h.root }
  · intro j o ho
    have hin := (h.own j o ho).2
    refine (h.objs j o ho).keep k (Stays.refl σ ob) rfl (hb _ hin) fun x hx hxb => ?_
    rcases hS' x hx with hx | hx
    · exact hx
    · omega
  · intro j o ho
    have := h.own j o ho
    exact ⟨this.1, by omega⟩
  · intro b hb0 hX
    rw [hb b (by have := h.grow; omega), h.old b hb0 hX]
  · intro a ha
    rcases hS' a ha with ha | ha
    · exact h.snew a ha
    · exact .inr (.inr (by have := h.grow; omega))
  · intro a ha
    rcases hS' a ha with ha | ha
    · have := h.sin a ha; omega
    · exact ha.2
  · refine ⟨fun g t x hx => ?_, fun g hg => (h.glob.ifs g hg).keep k⟩
    obtain ⟨vs, h1, h2⟩ := h.glob.data g t x hx
    exact ⟨vs, h1.keep k, RepT.keep k _ _ _ h2.1, fun fs hf => (h2.2 fs hf).same (hb _ (h2.2 fs hf).lt)⟩
theorem MemOK.same (h : MemOK Γ w0 S0 X w S σ ob) (hb : w'.heap = w.heap) (he : w'.os = w.os ∧ w'.output = w.output := by exact ⟨rfl, rfl⟩) : Trans Γ w0 S0 X w S σ ob w' S σ ob :=
  h.more (fun b _ => by rw [hb]) (by rw [hb]; exact Nat.le_refl _) (fun _ h => h) (fun _ h => .inl h) he

/-- places, one more -/
def locMore (σ : Loc) (n b c : Nat) : Loc := fun j => if j = n then (b, c) else σ j
theorem more_old {σ : Loc} {n b c j : Nat} (h : j < n) : locMore σ n b c j = σ j := by unfold locMore; rw [if_neg (by omega)]
theorem more_new {σ : Loc} {n b c : Nat} : locMore σ n b c n = (b, c) := by unfold locMore; rw [if_pos rfl]
theorem stays_more {b c : Nat} {o : Obj} : Stays σ ob (locMore σ ob.length b c) (ob ++ [some o]) := by
  refine ⟨by simp, fun j hj o' ho => ?_⟩
  rw [List.getElem?_append_left hj] at ho
  exact ⟨o', ho, more_old hj, by cases o' <;> simp⟩
theorem get_more {o : Obj} {j : Nat} {o' : Obj} (h : (ob ++ [some o])[j]? = some (some o')) : (j < ob.length ∧ ob[j]? = some (some o')) ∨ (j = ob.length ∧ o' = o) := by
  rcases Nat.lt_or_ge j ob.length with hj | hj
  · rw [List.getElem?_append_left hj] at h; exact .inl ⟨hj, h⟩
  · rw [List.getElem?_append_right hj] at h
    cases hk : j - ob.length with
    | zero => rw [hk] at h; simp at h; exact .inr ⟨by omega, h.symm⟩
    | succ k => rw [hk] at h; simp at h
theorem lt_of_get {j : Nat} {o : Obj} (h : ob[j]? = some (some o)) : j < ob.length := (List.getElem?_eq_some_iff.1 h).1

/-- (b) an object more, in a block that no other one has -/
theorem MemOK.add (h : MemOK Γ w0 S0 X w S σ ob) {o : Obj} {b c : Nat} (hb : b < w.heap.size) (hX : X b ∨ w0.heap.size ≤ b) (hd : ∀ j o', ob[j]? = some (some o') → (σ j).1 ≠ b)
    (ho : ObjAt Γ.P w S (locMore σ ob.length b c) (ob ++ [some o]) ob.length o) : Trans Γ w0 S0 X w S σ ob w S (locMore σ ob.length b c) (ob ++ [some o]) := by
  have k : Keeps w S w S := Keeps.refl w S
  have st : Stays σ ob (locMore σ ob.length b c) (ob ++ [some o]) := stays_more
  refine ⟨?_, fun a v r => RepA.keep k st a v r, k⟩
  refine { objs := ?_, apart := ?_, own := ?_, old := h.old, grow := h.grow, s0 := h.s0, snew := h.snew, sin := h.sin, glob := h.glob, env := h.env, kept := h.kept, root := fun k p hk => ⟨by have := (h.root k p hk).1; simp; omega, by rw [more_old (h.root k p hk).1]; exact (h.root k p hk).2⟩ }
  · intro j o' hj
    rcases get_more hj with ⟨hl, hj⟩ | ⟨rfl, rfl⟩
    · exact (h.objs j o' hj).keep k st (more_old hl) rfl (fun x hx _ => hx)
    · exact ho
  · intro j j' o1 o2 h1 h2 hne
    rcases get_more h1 with ⟨l1, g1⟩ | ⟨e1, _⟩ <;> rcases get_more h2 with ⟨l2, g2⟩ | ⟨e2, _⟩
    · rw [more_old l1, more_old l2]; exact h.apart j j' _ _ g1 g2 hne
    · rw [more_old l1, e2, more_new]; exact hd _ _ g1
    · rw [more_old l2, e1, more_new]; exact fun e => hd _ _ g2 e.symm
    · exact absurd (e1.trans e2.symm) hne
  · intro j o' hj
    rcases get_more hj with ⟨hl, hj⟩ | ⟨rfl, rfl⟩
    · rw [more_old hl]; exact h.own j o' hj
    · rw [more_new]; exact ⟨hX, hb⟩

/-- (c) an object is gone -/
theorem stays_kill {j : Nat} : Stays σ ob σ (ob.set j none) := by
  refine ⟨by simp, fun i hi o' ho => ?_⟩
  by_cases hij : j = i
  · subst hij; rw [List.getElem?_set_self hi] at ho; simp at ho
  · rw [List.getElem?_set_ne hij] at ho; exact ⟨o', ho, rfl, by cases o' <;> simp⟩
theorem get_kill {j i : Nat} {o : Obj} (h : (ob.set j none)[i]? = some (some o)) : i ≠ j ∧ ob[i]? = some (some o) := by
  by_cases hij : j = i
  · subst hij
    have hl : j < ob.length := by have := (List.getElem?_eq_some_iff.1 h).1; simpa using this
    rw [List.getElem?_set_self hl] at h; simp at h
  · rw [List.getElem?_set_ne hij] at h; exact ⟨fun e => hij e.symm, h⟩
theorem MemOK.kill (h : MemOK Γ w0 S0 X w S σ ob) (j : Nat) : Trans Γ w0 S0 X w S σ ob w S σ (ob.set j none) := by
  have k : Keeps w S w S := Keeps.refl w S
  have st : Stays σ ob σ (ob.set j none) := stays_kill
  refine ⟨?_, fun a v r => RepA.keep k st a v r, k⟩
  refine { objs := ?_, apart := ?_, own := ?_, old := h.old, grow := h.grow, s0 := h.s0, snew := h.snew, sin := h.sin, glob := h.glob, env := h.env, kept := h.kept, root := fun k p hk => ⟨by simpa using (h.root k p hk).1, (h.root k p hk).2⟩ }
  · intro i o ho
    obtain ⟨_, ho⟩ := get_kill ho
    exact (h.objs i o ho).keep k st rfl rfl (fun x hx _ => hx)
  · intro i i' o1 o2 h1 h2 hne
    exact h.apart i i' _ _ (get_kill h1).2 (get_kill h2).2 hne
  · intro i o ho; exact h.own i o (get_kill ho).2

/-- (d) an object turns, in its own block; S is as it was -/
def alike (o o' : Obj) : Prop := match o, o' with
  | .box t _, .box t' _ => t = t'
  | .arr e xs _, .arr e' xs' _ => e = e' ∧ xs.length = xs'.length
  | _, _ => False
theorem stays_set {j : Nat} {o o' : Obj} (ho : ob[j]? = some (some o)) (ha : alike o o') : Stays σ ob σ (ob.set j (some o')) := by
  refine ⟨by simp, fun i hi x hx => ?_⟩
  by_cases hij : j = i
  · subst hij; rw [List.getElem?_set_self hi] at hx; simp at hx; subst hx; exact ⟨o, ho, rfl, ha⟩
  · rw [List.getElem?_set_ne hij] at hx; exact ⟨x, hx, rfl, by cases x <;> simp⟩
theorem get_set {j i : Nat} {o' x : Obj} (h : (ob.set j (some o'))[i]? = some (some x)) : (i = j ∧ x = o') ∨ (i ≠ j ∧ ob[i]? = some (some x)) := by
  by_cases hij : j = i
  · subst hij
    have hl : j < ob.length := by have := (List.getElem?_eq_some_iff.1 h).1; simpa using this
    rw [List.getElem?_set_self hl] at h; simp at h; exact .inl ⟨rfl, h.symm⟩
  · rw [List.getElem?_set_ne hij] at h; exact .inr ⟨fun e => hij e.symm, h⟩
theorem MemOK.turn (h : MemOK Γ w0 S0 X w S σ ob) {j : Nat} {o o' : Obj} (ho : ob[j]? = some (some o)) (ha : alike o o')
    (hb : ∀ b, b ≠ (σ j).1 → w'.heap[b]? = w.heap[b]?) (hg : w'.heap.size = w.heap.size) (hk : Keeps w S w' S') (hS' : ∀ a, S' a → S a ∨ a.block = (σ j).1)
    (hn : ObjAt Γ.P w' S' σ (ob.set j (some o')) j o') (he : w'.os = w.os ∧ w'.output = w.output := by exact ⟨rfl, rfl⟩) : Trans Γ w0 S0 X w S σ ob w' S' σ (ob.set j (some o')) := by
  have st : Stays σ ob σ (ob.set j (some o')) := stays_set ho ha
  have own := h.own j o ho
  refine ⟨?_, fun a v r => RepA.keep hk st a v r, hk⟩
  refine { objs := ?_, apart := ?_, own := ?_, old := ?_, grow := by rw [hg]; exact h.grow, s0 := fun a ha => (hk a (h.s0 a ha)).2, snew := ?_, sin := ?_, glob := ?_, env := ⟨he.1.trans h.env.1, he.2.trans h.env.2⟩, kept := h.kept.trans hk, root := fun k p hk => ⟨by simpa using (h.root k p hk).1, (h.root k p hk).2⟩ }
  · intro i x hx
    rcases get_set hx with ⟨rfl, rfl⟩ | ⟨hne, hx⟩
    · exact hn
    · have hap := h.apart i j _ _ hx ho hne
      refine (h.objs i x hx).keep hk st rfl (hb _ hap) fun y hy hyb => ?_
      rcases hS' y hy with hy | hy
      · exact hy
      · exact absurd (hyb.symm.trans hy) hap
  · intro i i' o1 o2 h1 h2 hne
    rcases get_set h1 with ⟨e1, _⟩ | ⟨n1, g1⟩ <;> rcases get_set h2 with ⟨e2, _⟩ | ⟨n2, g2⟩
    · exact absurd (e1.trans e2.symm) hne
    · rw [e1]; exact h.apart _ _ _ _ ho g2 (fun e => hne (e1.trans e))
    · rw [e2]; exact h.apart _ _ _ _ g1 ho (fun e => hne (e.trans e2.symm))
    · exact h.apart _ _ _ _ g1 g2 hne
  · intro i x hx
    rw [hg]
    rcases get_set hx with ⟨rfl, _⟩ | ⟨_, hx⟩
    · exact own
    · exact h.own i x hx
  · intro b hb0 hX
    rw [hb b ?_, h.old b hb0 hX]
    rintro rfl
    rcases own.1 with hx | hx
    · exact hX hx
    · omega
  · intro a ha
    rcases hS' a ha with ha | ha
    · exact h.snew a ha
    · rw [ha]; rcases own.1 with hx | hx
      · exact .inr (.inl hx)
      · exact .inr (.inr hx)
  · intro a ha
    rw [hg]
    rcases hS' a ha with ha | ha
    · exact h.sin a ha
    · rw [ha]; exact own.2
  · refine ⟨fun g t x hx => ?_, fun g hg => (h.glob.ifs g hg).keep hk⟩
    obtain ⟨vs, h1, h2⟩ := h.glob.data g t x hx
    refine ⟨vs, h1.keep hk, RepT.keep hk _ _ _ h2.1, fun fs hf => ?_⟩
    have h2 := h2.2 fs hf
    by_cases hgb : g = (σ j).1
    · subst hgb
      obtain ⟨cs, el, fr, e1, e2⟩ := h2
      have ho0 := h.objs j o ho
      cases o with
      | box t1 a1 =>
        cases o' with
        | arr e' xs' fz' => exact absurd ha (by simp [alike])
        | box t2 a2 =>
          have ht : t1 = t2 := ha
          simp only [ObjAt] at ho0 hn
          obtain ⟨vs0, el0, fr0, q1, _, _, q2, _⟩ := ho0
          obtain ⟨vs1, el1, fr1, p1, _, _, p2, _⟩ := hn
          rw [e1] at q1
          cases q1
          refine ⟨_, _, _, p1, ?_⟩
          rw [← e2]
          simp only [List.size_toArray]
          rw [p2, q2, ht]
      | arr e1' xs1 fz1 =>
        cases o' with
        | box t2 a2 => exact absurd ha (by simp [alike])
        | arr e2' xs2 fz2 =>
          have ht : e1' = e2' := ha.1
          simp only [ObjAt] at ho0 hn
          obtain ⟨cs0, el0, fr0, q1, _, q2, _⟩ := ho0
          obtain ⟨cs1, el1, fr1, p1, _, p2, _⟩ := hn
          rw [e1] at q1
          cases q1
          refine ⟨_, _, _, p1, ?_⟩
          rw [← e2, p2, q2, ht]
    · exact h2.same (hb g hgb)
end
end Go.Proofs.YtjbemleloffafaaDoor.V
