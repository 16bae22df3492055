/- Labels: what is kept there stands for what was there. -/
import Derived.Test.YtjbemleloffafaaDoorFrT
namespace Go.Proofs.YtjbemleloffafaaDoor.V
open Go
set_option linter.unusedVariables false
set_option linter.unusedSimpArgs false

section
variable {Γ : Ctx} {w0 : World} {S0 : Addr → Prop} {X : XB} {w w' : World} {S S' : Addr → Prop} {σ σ' : Loc} {ob ob' : Objs} {R : Type}
theorem clean_ok {P : Program} {a : AV} {v : Value} (h : RepA P w S σ ob a v) : RepA P w S σ ob (clean ob a) v := by
  unfold clean
  split <;> try exact h
  · split
    · exact h
    · simp only [RepA]
  · split
    · exact h
    · simp only [RepA]
theorem get_map {live : List Nat} {F : Nat → AV} {t : Nat} : get (live.map fun t => (t, F t)) t = if t ∈ live then F t else .undef := by
  induction live with
  | nil => simp [get]
  | cons a r ih =>
    simp only [List.map_cons, get]
    cases hb : Nat.beq a t with
    | true => obtain rfl := beq_id hb; simp
    | false =>
      have hne : t ≠ a := fun e => by subst e; simp at hb
      simp only [cond_false, ih, List.mem_cons, hne, false_or]
theorem ids_mem {p : Nat × AV} {j : Nat} (hj : j ∈ idsA p.2) : ∀ {tm : Tm}, p ∈ tm → j ∈ idsL (tm.map (·.2))
  | [], hp => by cases hp
  | q :: r, hp => by
    simp only [List.map_cons, idsL, List.mem_append]
    rcases List.mem_cons.1 hp with e | e
    · subst e; exact .inl hj
    · exact .inr (ids_mem hj e)
theorem pre_get {m k : Nat} {r : List Nat} (h : k < m) : (List.range m ++ r)[k]? = some k := by
  rw [List.getElem?_append_left (by simpa using h)]; simp [h]
/-- objects in another order, the first ones in their places -/
theorem order_ok (hM : MemOK Γ w0 S0 X w S σ ob) {m : Nat} (hm : X.roots.length = m) {ord ids l : List Nat} (hord : reach ob 400 l (List.range m) = ord) (hc : clsd ob ord ids = true) :
    MemOK Γ w0 S0 X w S (fun k => σ (ord.getD k 0)) (ord.map fun j => renO (fun j => posN j ord) (ob.getD j none)) ∧
    ∀ j ∈ ord, Moved σ ob (fun k => σ (ord.getD k 0)) (ord.map fun j => renO (fun j => posN j ord) (ob.getD j none)) (fun j => posN j ord) j := by
  obtain ⟨hnd, _, hob⟩ := clsd_spec hc
  obtain ⟨h1, h2, h3, h4⟩ := move_objs hnd hob hM.objs hM.apart rfl rfl rfl
  refine ⟨{ objs := h3, apart := h4, own := ?_, old := hM.old, grow := hM.grow, s0 := hM.s0, snew := hM.snew, sin := hM.sin, glob := hM.glob, env := hM.env, kept := hM.kept, root := ?_ }, h1⟩
  · intro k o' hk
    obtain ⟨j, o, hj, hoj, _, hs⟩ := h2 k o' hk
    rw [hs]
    exact hM.own j o hoj
  · intro k p hk
    have hkm : k < m := by rw [← hm]; exact (List.getElem?_eq_some_iff.1 hk).1
    obtain ⟨r, hr⟩ := reach_pre (ob := ob) 400 l (List.range m)
    rw [hord] at hr
    have hg : ord[k]? = some k := by rw [hr]; exact pre_get hkm
    refine ⟨by simp; exact (List.getElem?_eq_some_iff.1 hg).1, ?_⟩
    rw [List.getD_eq_getElem?_getD, hg]
    exact (hM.root k p hk).2
theorem restrict_ok {n m : Nat} {live : List Nat} {st : St} {a : Act} (hm : X.roots.length = m) (h : StOK Γ w0 S0 X n st a w S σ) (hc : closedR m live st = true) : ∃ σ', StOK Γ w0 S0 X n (restrict m live st) a w S σ' := by
  obtain ⟨tm, ob⟩ := st
  simp only [closedR] at hc
  simp only [restrict]
  generalize htm : (live.map fun t => (t, clean ob (get tm t))) = tm1 at *
  generalize hord : reach ob 400 (idsOb ob (List.range m) ++ idsL (tm1.map (·.2))) (List.range m) = ord at *
  obtain ⟨hmem, hmv⟩ := order_ok h.mem hm hord hc
  obtain ⟨_, hin, _⟩ := clsd_spec hc
  refine ⟨_, ⟨hmem, fun t => ?_, h.size, h.defers⟩⟩
  have e : (tm1.map fun p => (p.1, renA (fun j => posN j ord) p.2)) = live.map fun t => (t, renA (fun j => posN j ord) (clean ob (get tm t))) := by rw [← htm, List.map_map]; rfl
  show RepA Γ.P w S _ _ (get (tm1.map fun p => (p.1, renA (fun j => posN j ord) p.2)) t) _
  rw [e, get_map]
  split
  · rename_i ht
    exact RepA.ren (g := fun j => posN j ord) _ _ (fun j hj => hmv j (hin j (ids_mem (p := (t, clean ob (get tm t))) hj (by rw [← htm]; exact List.mem_map.2 ⟨t, ht, rfl⟩)))) (clean_ok (h.tm t))
  · simp only [RepA]
end
end Go.Proofs.YtjbemleloffafaaDoor.V
