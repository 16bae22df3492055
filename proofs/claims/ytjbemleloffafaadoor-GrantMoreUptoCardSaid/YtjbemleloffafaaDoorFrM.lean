/- Operations. Part four: elements, tuples, literals, new rows. -/
import Derived.Test.YtjbemleloffafaaDoorFrL
namespace Go.Proofs.YtjbemleloffafaaDoor.V
open Go
set_option linter.unusedVariables false
set_option linter.unusedSimpArgs false

section
variable {Γ : Ctx} {w0 : World} {S0 : Addr → Prop} {X : XB} {w w' : World} {S S' : Addr → Prop} {σ σ' : Loc} {ob ob' : Objs} {R : Type}

/-! ### elements -/
theorem indexAt_slice_run {t e : TypeId} {d : TypeDesc} {k : IntKind} {n : Int} {b o len cap : Nat} (hs : und Γ.P t = some (.slice e)) (he : und Γ.P e = some d) (h0 : 0 ≤ n) (h1 : n < len) :
    (Instr.indexAt t (.slice (some ⟨b, o, none⟩) len cap) (.int k n)).run Γ.P w = .ok (.pointer (some ⟨b, o + n.toNat * Γ.P.cellsOf e, none⟩)) w := by
  have hu := (und_lt hs).2
  simp only [Instr.indexAt, asIntOf, Sem.run_bind, Sem.run_pure, Result.andThen_ok, run_underlying hu, h0, h1, and_self, if_true, sizeOf_run he, Addr.add_mid]
theorem indexAt_array_run {t e : TypeId} {d : TypeDesc} {k : IntKind} {n : Int} {b o len : Nat} (hs : und Γ.P t = some (.array len e)) (he : und Γ.P e = some d) (h0 : 0 ≤ n) (h1 : n < len) :
    (Instr.indexAt t (.pointer (some ⟨b, o, none⟩)) (.int k n)).run Γ.P w = .ok (.pointer (some ⟨b, o + n.toNat * Γ.P.cellsOf e, none⟩)) w := by
  have hu := (und_lt hs).2
  simp only [Instr.indexAt, asIntOf, Sem.run_bind, Sem.run_pure, Result.andThen_ok, run_underlying hu, Instr.sureAddr, h0, h1, and_self, if_true, sizeOf_run he, Addr.add_mid]
theorem indexAddr_ok (hP : tabOk Γ.P = true) {t : TypeId} {x ix : AV} {vx vi : Value} {K : AV → Option R} {r : R} (hx : RepA Γ.P w S σ ob x vx) (hi : RepA Γ.P w S σ ob ix vi)
    (h : opIndexAddr Γ.P t x ix ob K = some r) : ∃ av, K av = some r ∧ ∃ cv, RepA Γ.P w S σ ob av cv ∧ (Instr.indexAt t vx vi).run Γ.P w = .ok cv w := by
  unfold opIndexAddr at h
  split at h
  · rename_i e c xs k n
    split at h
    · rename_i e' hd
      obtain ⟨h1, h2⟩ := cond_some h
      obtain rfl := beq_id h1
      obtain ⟨h0, y, hy, h3⟩ := idx_some h2
      have hs := ds_some hd (by simp)
      obtain ⟨d, he⟩ := elem_slice hP hs
      obtain ⟨u1, u2, _, _⟩ := underId_spec hP he
      simp only [RepA] at hx hi
      subst hi
      obtain ⟨a, cap, rfl, hc, hr⟩ := hx
      have hlt := getL hy
      rcases hr with rfl | ⟨b, o, rfl, hr⟩
      · simp at hy
      · obtain ⟨vs, h4, h5⟩ := hr.get n.toNat hy
        refine ⟨_, h3, _, ?_, indexAt_slice_run hs he h0 (by omega)⟩
        simp only [RepA]
        exact ⟨b, _, vs, rfl, by rw [← u2]; exact h4, h5⟩
    · exact absurd h (by simp)
  · rename_i e j k n
    split at h
    · rename_i e' hd
      obtain ⟨h1, h2⟩ := cond_some h
      obtain rfl := beq_id h1
      split at h2
      · rename_i e0 xs fz hob
        obtain ⟨h3, h4⟩ := cond_some h2
        simp only [Bool.and_eq_true, decide_eq_true_eq] at h3
        have hs := ds_some hd (by simp)
        obtain ⟨d, he⟩ := elem_slice hP hs
        obtain ⟨u1, u2, _, u4⟩ := underId_spec hP he
        simp only [RepA] at hx hi
        subst hi
        obtain ⟨hl, b, len, cap, rfl, ha⟩ := hx
        obtain ⟨rfl, rfl, rfl, rfl⟩ := ha _ _ _ hob
        refine ⟨_, h4, _, ?_, indexAt_slice_run hs he h3.1 h3.2⟩
        simp only [RepA]
        refine ⟨hl, _, _, rfl, fun e' xs' fz' hc => ?_⟩
        rw [hob] at hc
        cases hc
        exact ⟨rfl, 0, by simp only [offP, u1, u4, Option.map_some], by rw [u2]; omega⟩
      · exact absurd h2 (by simp)
    · exact absurd h (by simp)
  · rename_i u x k n
    split at h
    · rename_i len e hd
      obtain ⟨h1, h2⟩ := cond_some h
      obtain rfl := beq_id h1
      obtain ⟨ys, rfl, h2⟩ := dAgg_some h2
      obtain ⟨h0, y, hy, h3⟩ := idx_some h2
      have hs := ds_some hd (by simp)
      obtain ⟨d, he⟩ := elem_array hP hs
      simp only [RepA] at hx hi
      subst hi
      obtain ⟨b, o, vs, rfl, hc, hr⟩ := hx
      have hr := hr.back hP ⟨_, hs⟩
      simp only [RepT, hs] at hr
      rcases hr with ⟨_, e0, _⟩ | ⟨len', e0, e1, hlen, hr⟩
      · cases e0
      · cases e1
        have hlt := getL hy
        obtain ⟨A, V, B, rfl, hA, hV, _⟩ := RepFs.get hP n.toNat hr hy (t := e) (by rw [List.getElem?_replicate, if_pos (by omega)])
        rw [sumCells_take_replicate _ _ _ (by omega)] at hA
        refine ⟨_, h3, _, ?_, indexAt_array_run hs he h0 (by omega)⟩
        simp only [RepA]
        refine ⟨b, _, V, rfl, fun q v hv => ?_, hV.under hP⟩
        have hq := getL hv
        have := hc (A.length + q) v (by rw [List.append_assoc, List.getElem?_append_right (by omega), show A.length + q - A.length = q by omega, List.getElem?_append_left hq, hv])
        rw [← hA, Nat.add_assoc]; exact this
    · exact absurd h (by simp)
  · rename_i j p u k n
    split at h
    · rename_i len e hd
      obtain ⟨h1, h2⟩ := cond_some h
      simp only [Bool.and_eq_true, decide_eq_true_eq] at h1
      obtain ⟨⟨h1, h0⟩, hlt⟩ := h1
      obtain rfl := beq_id h1
      have hs := ds_some hd (by simp)
      obtain ⟨d, he⟩ := elem_array hP hs
      simp only [RepA] at hx hi
      subst hi
      obtain ⟨hl, b, off, rfl, ha⟩ := hx
      refine ⟨_, h2, _, ?_, indexAt_array_run hs he h0 hlt⟩
      simp only [RepA]
      refine ⟨hl, b, _, rfl, fun tj c hc => ?_⟩
      obtain ⟨h3, h4⟩ := ha _ _ hc
      refine ⟨h3, ?_⟩
      have hin : n.toNat < len := by omega
      exact offP_snoc hP p tj off _ t [n.toNat] (n.toNat * Γ.P.cellsOf e) (underId Γ.P e) h4 rfl ⟨_, hs⟩ (by simp only [offP, hs, hin, if_true, he, Option.map_some, Nat.add_zero]) (by simp)
    · exact absurd h (by simp)
  · exact absurd h (by simp)
theorem index_ok (hP : tabOk Γ.P = true) {t : TypeId} {x ix : AV} {vx vi : Value} {K : AV → Option R} {r : R} (hx : RepA Γ.P w S σ ob x vx) (hi : RepA Γ.P w S σ ob ix vi)
    (h : opIndex Γ.P t x ix K = some r) : ∃ av, K av = some r ∧ ∃ cv, RepA Γ.P w S σ ob av cv ∧ (Instr.index t vx vi).run Γ.P w = .ok cv w := by
  unfold opIndex at h
  split at h
  · rename_i l k n
    split at h
    · rename_i hd
      obtain ⟨h0, c, hc, h3⟩ := idx_some h
      have hu := (und_lt (ds_some hd (by simp))).2
      simp only [RepA] at hx hi
      subst hi
      obtain ⟨s, rfl, rfl⟩ := hx
      refine ⟨_, h3, _, repI, ?_⟩
      have hc' : s[n.toNat]? = some c := by
        have hlt := getL hc
        have hsz : n.toNat < s.size := by rw [size_len]; exact hlt
        rw [getElem?_pos s n.toNat hsz]
        have := (List.getElem?_eq_some_iff.1 hc).2
        rw [← this]; rfl
      simp only [Instr.index, asIntOf, Sem.run_bind, Sem.run_pure, Result.andThen_ok, run_underlying hu, h0, if_true, hc']
    · exact absurd h (by simp)
  · rename_i u x k n
    split at h
    · rename_i len e hd
      obtain ⟨h1, h2⟩ := cond_some h
      obtain rfl := beq_id h1
      obtain ⟨ys, rfl, h2⟩ := dAgg_some h2
      obtain ⟨h0, y, hy, h3⟩ := idx_some h2
      have h3 := openD_id _ _ _ _ _ h3
      have hs := ds_some hd (by simp)
      obtain ⟨d, he⟩ := elem_array hP hs
      have hu := (und_lt hs).2
      simp only [RepA] at hx hi
      subst hi
      obtain ⟨cs, rfl, hr, _⟩ := hx
      have hr := hr.back hP ⟨_, hs⟩
      simp only [RepT, hs] at hr
      rcases hr with ⟨_, e0, _⟩ | ⟨len', e0, e1, hlen, hr⟩
      · cases e0
      · cases e1
        have hlt := getL hy
        obtain ⟨A, V, B, rfl, hA, hV, _⟩ := RepFs.get hP n.toNat hr hy (t := e) (by rw [List.getElem?_replicate, if_pos (by omega)])
        rw [sumCells_take_replicate _ _ _ (by omega)] at hA
        refine ⟨_, h3, _, fromD_ok hP hV, ?_⟩
        have hlt2 : n < (len : Int) := by omega
        simp only [Instr.index, asIntOf, Sem.run_bind, Sem.run_pure, Result.andThen_ok, run_underlying hu, h0, hlt2, and_self, if_true, sizeOf_run he]
        exact part_run hP hV rfl hA
    · exact absurd h (by simp)
  · exact absurd h (by simp)
theorem RepAs.get {P : Program} : ∀ {l : List AV} {vs : List Value} {i : Nat} {a : AV}, RepAs P w S σ ob l vs → l[i]? = some a → ∃ v, vs[i]? = some v ∧ RepA P w S σ ob a v
  | [], vs, i, a, h, hl => by simp at hl
  | x :: r, vs, 0, a, h, hl => by
    simp only [RepAs] at h
    obtain ⟨v, vs', rfl, h2, h3⟩ := h
    simp at hl; subst hl; exact ⟨v, rfl, h2⟩
  | x :: r, vs, i + 1, a, h, hl => by
    simp only [RepAs] at h
    obtain ⟨v, vs', rfl, h2, h3⟩ := h
    simp at hl
    obtain ⟨u, h4, h5⟩ := RepAs.get h3 hl
    exact ⟨u, by simpa using h4, h5⟩
theorem extract_ok {x : AV} {i : Nat} {v : Value} {K : AV → Option R} {r : R} (hx : RepA Γ.P w S σ ob x v) (h : opExtract x i K = some r) :
    ∃ av, K av = some r ∧ ∃ cv, RepA Γ.P w S σ ob av cv ∧ (Instr.extract v i).run Γ.P w = .ok cv w := by
  unfold opExtract at h
  split at h
  · rename_i l
    split at h
    · rename_i a ha
      simp only [RepA] at hx
      obtain ⟨vs, rfl, hr⟩ := hx
      obtain ⟨u, hu, hrep⟩ := hr.get ha
      exact ⟨_, h, u, hrep, by simp [Instr.extract, hu]⟩
    · exact absurd h (by simp)
  · exact absurd h (by simp)

/-! ### freezing -/
theorem frz_ok (hP : tabOk Γ.P = true) (hM : MemOK Γ w0 S0 X w S σ ob) {a a' : AV} {ob' : Objs} {v : Value} (h : frz a ob = (a', ob')) (ha : RepA Γ.P w S σ ob a v) :
    ∃ S', Trans Γ w0 S0 X w S σ ob w S' σ ob' ∧ RepA Γ.P w S' σ ob' a' v := by
  unfold frz at h
  split at h
  · rename_i e j
    split at h
    · rename_i e' xs fz hob
      cases h
      simp only [RepA] at ha
      obtain ⟨hl, b, n, cap, rfl, ha⟩ := ha
      obtain ⟨rfl, rfl, rfl, rfl⟩ := ha _ _ _ hob
      have hO := hM.objs j _ hob
      simp only [ObjAt] at hO
      obtain ⟨cs, el, fr, hb, hnf, hcs, hle, hrow, hel, hS⟩ := hO
      let S' : Addr → Prop := fun y => S y ∨ (y.block = (σ j).1 ∧ y.off < xs.length * Γ.P.cellsOf e' ∧ y.spot = none)
      have hk : Keeps w S w S' := fun y hy => ⟨rfl, .inl hy⟩
      have hrow' : RowV Γ.P w S' xs e' (σ j).1 0 := RowV.keep hk (fun _ => rfl) hrow
      refine ⟨S', MemOK.turn hM hob (o' := .arr e' xs true) (by simp [alike]) (fun _ _ => rfl) rfl hk (fun y hy => hy.imp id (·.1)) ?_, ?_⟩
      · simp only [ObjAt]
        refine ⟨cs, el, fr, hb, hnf, hcs, hle, hrow', hel, fun y hy hyb => ?_⟩
        rcases hy with hy | hy
        · exact ⟨trivial, (hS y hy hyb).2⟩
        · exact ⟨trivial, hy.2⟩
      · simp only [RepA]
        refine ⟨_, _, rfl, ⟨hle, fun h => by simp at h⟩, ?_⟩
        cases hxs : xs with
        | nil => exact .inl rfl
        | cons x0 r0 =>
          refine .inr ⟨_, _, rfl, ?_⟩
          rw [← hxs]
          exact RowV.toRep hP (fun n _ hn => .inr ⟨rfl, by simpa using hn, rfl⟩) hrow'
    · cases h; exact ⟨S, Trans.refl hM, ha⟩
  · cases h; exact ⟨S, Trans.refl hM, ha⟩
theorem frzL_ok (hP : tabOk Γ.P = true) : ∀ (l : List AV) {S : Addr → Prop} {ob : Objs} {l' : List AV} {ob' : Objs} {vs : List Value}, MemOK Γ w0 S0 X w S σ ob → frzL l ob = (l', ob') → RepAs Γ.P w S σ ob l vs →
    ∃ S', Trans Γ w0 S0 X w S σ ob w S' σ ob' ∧ RepAs Γ.P w S' σ ob' l' vs
  | [], S, ob, l', ob', vs, hM, h, ha => by simp only [frzL] at h; cases h; exact ⟨S, Trans.refl hM, by simpa only [RepAs] using ha⟩
  | a :: r, S, ob, l', ob', vs, hM, h, ha => by
    simp only [frzL] at h
    simp only [RepAs] at ha
    obtain ⟨v, vs', rfl, h1, h2⟩ := ha
    cases hf : frz a ob with
    | mk a1 ob1 =>
      rw [hf] at h
      simp only at h
      cases hg : frzL r ob1 with
      | mk r1 ob2 =>
        rw [hg] at h
        cases h
        obtain ⟨S1, t1, ra⟩ := frz_ok hP hM hf h1
        have h2' : RepAs Γ.P w S1 σ ob1 r vs' := by
          clear hg hf h1 ra
          revert vs'
          induction r with
          | nil => intro vs' h2; simpa only [RepAs] using h2
          | cons b q ih =>
            intro vs' h2
            simp only [RepAs] at h2 ⊢
            obtain ⟨v, vs'', e, g1, g2⟩ := h2
            exact ⟨v, vs'', e, t1.2 _ _ g1, ih _ g2⟩
        obtain ⟨S2, t2, rr⟩ := frzL_ok hP r t1.1 hg h2'
        refine ⟨S2, t1.trans t2, ?_⟩
        simp only [RepAs]
        exact ⟨v, vs', rfl, t2.2 _ _ ra, rr⟩
theorem RepAs.trans {l : List AV} (t : Trans Γ w0 S0 X w S σ ob w' S' σ' ob') : ∀ {vs : List Value}, RepAs Γ.P w S σ ob l vs → RepAs Γ.P w' S' σ' ob' l vs := by
  induction l with
  | nil => intro vs h; simpa only [RepAs] using h
  | cons b q ih =>
    intro vs h
    simp only [RepAs] at h ⊢
    obtain ⟨v, vs', e, g1, g2⟩ := h
    exact ⟨v, vs', e, t.2 _ _ g1, ih g2⟩
end
end Go.Proofs.YtjbemleloffafaaDoor.V
