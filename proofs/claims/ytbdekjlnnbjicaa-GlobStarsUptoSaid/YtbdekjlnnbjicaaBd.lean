/- FrP: texts of this claim, put together in build order by program. -/
import Derived.Test.YtbdekjlnnbjicaaBc
import Derived.Laws.BitsLemmas
/- Operations. Part seven: rows made anew, lengths, least and greatest. -/
namespace Go.Proofs.Ytbdekjlnnbjicaa.V
open Go
set_option linter.unusedVariables false
set_option linter.unusedSimpArgs false

section
variable {Γ : Ctx} {w0 : World} {S0 : Addr → Prop} {X : XB} {w w' : World} {S S' : Addr → Prop} {σ σ' : Loc} {ob ob' : Objs} {R : Type}

/-- an operation comes to a value, and the rest goes on with it -/
def Out (Γ : Ctx) (w0 : World) (S0 : Addr → Prop) (X : XB) (w : World) (S : Addr → Prop) (σ : Loc) (ob : Objs) (K : AV → Objs → Option R) (r : R) (s : Sem Value) : Prop :=
  ∃ av ob', K av ob' = some r ∧ ∃ cv w' S' σ', s.run Γ.P w = .ok cv w' ∧ Trans Γ w0 S0 X w S σ ob w' S' σ' ob' ∧ RepA Γ.P w' S' σ' ob' av cv
theorem out_same (hM : MemOK Γ w0 S0 X w S σ ob) {K : AV → Objs → Option R} {r : R} {s : Sem Value} {av : AV} {cv : Value} (h : K av ob = some r) (hr : s.run Γ.P w = .ok cv w) (hv : RepA Γ.P w S σ ob av cv) :
    Out Γ w0 S0 X w S σ ob K r s := ⟨av, ob, h, cv, w, S, σ, hr, Trans.refl hM, hv⟩

theorem isTy_fits {P : Program} {t : TypeId} {a : AV} (h : isTy P t a = true) : fits P t a = true := by
  rcases isTy_spec h with ⟨k, n, rfl, hu⟩ | ⟨x, rfl, hu⟩ | ⟨l, rfl, hu⟩ | ⟨e, rfl, hu⟩ | ⟨e, c, xs, rfl, hu⟩ | ⟨x, d, rfl, hu, hk⟩ <;> simpa only [fits] using h
theorem fillL_ok (hP : tabOk Γ.P = true) {e : TypeId} {d : TypeDesc} (he : und Γ.P e = some d) : ∀ (ps : List (Nat × AV)) (cps : List (Nat × Value)) (xs : List D) (vs : List Value) (S : Addr → Prop) (ob : Objs) (xs' : List D) (ob' : Objs),
    MemOK Γ w0 S0 X w S σ ob → RepFs Γ.P w S xs (List.replicate xs.length e) vs → fillL Γ.P e xs ps ob = some (xs', ob') → cps.length = ps.length →
    (∀ (k : Nat) (p : Nat × AV), ps[k]? = some p → ∃ v, cps[k]? = some (p.1, v) ∧ RepA Γ.P w S σ ob p.2 v) →
    ∃ S' vs', Instr.fill (fun i => some (i * Γ.P.cellsOf e, Γ.P.cellsOf e)) vs.toArray cps = some vs'.toArray ∧ Trans Γ w0 S0 X w S σ ob w S' σ ob' ∧
      RepFs Γ.P w S' xs' (List.replicate xs'.length e) vs' ∧ xs'.length = xs.length
  | [], cps, xs, vs, S, ob, xs', ob', hM, hr, h, hl, hc => by
    cases cps with
    | cons _ _ => simp at hl
    | nil => simp only [fillL, Option.some.injEq, Prod.mk.injEq] at h; obtain ⟨rfl, rfl⟩ := h; exact ⟨S, vs, by simp [Instr.fill], Trans.refl hM, hr, rfl⟩
  | (i, x) :: r, cps, xs, vs, S, ob, xs', ob', hM, hr, h, hl, hc => by
    cases cps with
    | nil => simp at hl
    | cons cp cr =>
      obtain ⟨v, hv, hx⟩ := hc 0 (i, x) rfl
      simp at hv
      subst hv
      simp only [fillL] at h
      cases hf : frz x ob with
      | mk v' ob1 =>
        simp only [hf] at h
        obtain ⟨S1, t1, hv'⟩ := frz_ok hP hM hf hx
        cases hd : toD v' with
        | none => simp [hd] at h
        | some y =>
          simp only [hd] at h
          obtain ⟨hc1, h⟩ := cond_some h
          simp only [Bool.and_eq_true] at hc1
          have hi : i < xs.length := by simpa [Nat.blt_eq] using hc1.2
          have hfit := isTy_fits hc1.1
          have hy : RepT Γ.P w S1 y e v.cells.toList := toD_rep hP ⟨hfit, v, rfl, hv'⟩ hd
          have hsz := (fits_size hP v' e v hfit hv').1
          have hr1 : RepFs Γ.P w S1 xs (List.replicate xs.length e) vs := RepFs.keep t1.3 _ _ _ hr
          obtain ⟨x0, hx0⟩ : ∃ x0, xs[i]? = some x0 := ⟨_, List.getElem?_eq_getElem hi⟩
          obtain ⟨A, V, B, rfl, hA, hV, hnew⟩ := RepFs.get hP i hr1 hx0 (t := e) (by rw [List.getElem?_replicate, if_pos hi])
          rw [sumCells_take_replicate _ _ _ (by omega)] at hA
          have hVl := RepT.size hP _ _ _ hV
          have hlen : i * Γ.P.cellsOf e + Γ.P.cellsOf e ≤ (A ++ V ++ B).toArray.size := by simp; omega
          rw [fill_step rfl hsz hlen]
          have hp : putCs (A ++ V ++ B).toArray.toList (i * Γ.P.cellsOf e) v.cells.toList = A ++ v.cells.toList ++ B := by
            simpa using putCs_mid hA (by rw [hVl, Array.length_toList, hsz])
          rw [hp]
          have h2 := hnew y _ hy
          obtain ⟨S2, vs2, g1, g2, g3, g4⟩ := fillL_ok hP he r cr (xs.set i y) _ S1 ob1 xs' ob' t1.1 (by simpa using h2) h (by simpa using hl)
            (fun k p hk => by obtain ⟨u, hu, hu2⟩ := hc (k + 1) p (by simpa using hk); exact ⟨u, by simpa using hu, t1.2 _ _ hu2⟩)
          exact ⟨S2, vs2, by rw [List.append_assoc]; exact g1, t1.trans g2, g3, by simpa using g4⟩
theorem zero_row (hP : tabOk Γ.P = true) {e : TypeId} {z : D} {zv : Array Value} {n : Nat} (h : RepT Γ.P w S z e zv.toList) :
    ∃ vs, ((Array.range (n * Γ.P.cellsOf e)).map ((if n * Γ.P.cellsOf e = 0 then #[] else zv)[· % (if n * Γ.P.cellsOf e = 0 then #[] else zv).size]!)) = vs.toArray ∧
      RepFs Γ.P w S (List.replicate n z) (List.replicate n e) vs := by
  have hs := RepT.size hP _ _ _ h
  refine ⟨_, ?_, zeros_fs h n⟩
  apply Array.ext'
  by_cases h0 : n * Γ.P.cellsOf e = 0
  · rw [h0]
    have : (List.replicate n zv.toList).flatten = [] := by
      apply List.eq_nil_of_length_eq_zero
      simp [hs, h0]
    rw [this]; simp
  · rw [if_neg h0]
    exact zeros_cells n _ (by simpa using hs)
theorem zrun {e : TypeId} {z : Value} {n : Nat} (h : (zeroValue e).run Γ.P w = .ok z w) :
    (if n = 0 then pure #[] else do pure (← zeroValue e).cells : Sem (Array Value)).run Γ.P w = .ok (if n = 0 then #[] else z.cells) w := by
  split
  · rfl
  · simp only [Sem.run_bind, h, Result.andThen_ok, Sem.run_pure]
theorem buildSlice_ok (hP : tabOk Γ.P = true) (hZ : zeroOk Γ.P = true) (hM : MemOK Γ w0 S0 X w S σ ob) {own : Bool} {t : TypeId} {n : Nat} {ps : List (Nat × AV)} {cps : Array (Nat × Value)} {K : AV → Objs → Option R} {r : R}
    (h : opBuildSlice Γ.P own t n ps ob K = some r)
    (hl : cps.toList.length = ps.length) (hc : ∀ (k : Nat) (p : Nat × AV), ps[k]? = some p → ∃ v, cps.toList[k]? = some (p.1, v) ∧ RepA Γ.P w S σ ob p.2 v) :
    Out Γ w0 S0 X w S σ ob K r (Instr.buildSlice t n cps) := by
  unfold opBuildSlice at h
  split at h
  · rename_i e hd
    have hs := ds_some hd (by simp)
    obtain ⟨d, he⟩ := elem_slice hP hs
    split at h
    · rename_i z hz
      obtain ⟨hc1, h⟩ := cond_some h
      simp only [Bool.and_eq_true] at hc1
      have hsmall : n * Γ.P.cellsOf e ≤ 16777216 := by have := hc1.2; exact Nat.ble_eq.mp this
      obtain ⟨zv, hzr, hzb⟩ := zero_ok (w := w) (S := S) (σ := σ) (ob := ob) hP hZ hc1.1
      have hzt := toD_rep hP hzb hz
      obtain ⟨vs, hvs, hfs⟩ := zero_row hP (n := n) hzt
      split at h
      · rename_i xs ob1 hfill
        obtain ⟨S1, vs1, g1, t1, g3, g4⟩ := fillL_ok hP he ps cps.toList _ vs S ob xs ob1 hM (by simpa using hfs) hfill hl hc
        have hrun : ∀ w', w' = { w with heap := w.heap.push (.cells vs1.toArray e) } → (Instr.buildSlice t n cps).run Γ.P w = .ok (.slice (some ⟨w.heap.size, 0, none⟩) n n) w' := by
          rintro w' rfl
          have hn : ¬ (n * Γ.P.cellsOf e > 2 ^ 24) := by omega
          by_cases h0 : n * Γ.P.cellsOf e = 0
          · simp only [if_pos h0] at hvs
            simp only [Instr.buildSlice, Sem.run_bind, run_underlying (und_lt hs).2, Result.andThen_ok, sizeOf_run he, hn, if_false]
            rw [if_pos h0]
            simp only [Sem.run_bind, Result.andThen_ok, Sem.run_pure]
            rw [hvs]
            simp only [g1, newRow, newObj, Sem.run_bind, Sem.run_pure, Result.andThen_ok, Sem.run]
          · simp only [if_neg h0] at hvs
            simp only [Instr.buildSlice, Sem.run_bind, run_underlying (und_lt hs).2, Result.andThen_ok, sizeOf_run he, hn, if_false]
            rw [if_neg h0]
            simp only [Sem.run_bind, hzr, Result.andThen_ok, Sem.run_pure]
            rw [hvs]
            simp only [g1, newRow, newObj, Sem.run_bind, Sem.run_pure, Result.andThen_ok, Sem.run]
        have hlen : n = xs.length := by simpa using g4.symm
        have hsz := RepFs.size hP _ _ _ g3
        rw [sumCells_replicate] at hsz
        rcases cond_cases h with ⟨_, h⟩ | ⟨_, h⟩
        · obtain ⟨σ', t2, hr⟩ := newArr_ok (w' := { w with heap := w.heap.push (.cells vs1.toArray e) }) hP t1.1 (e := e) (xs := xs) (cs := vs1.toArray) (el := e) (cap := n) false he rfl (by simp [hsz, hlen]) (by omega) g3 (fun j v hj => by simpa using hj)
          rw [← hlen] at hr
          exact ⟨_, _, h, _, _, S1, σ', hrun _ rfl, t1.trans t2, hr⟩
        · obtain ⟨S2, t2, hr⟩ := newData_ok (w' := { w with heap := w.heap.push (.cells vs1.toArray e) }) hP t1.1 (e := e) (xs := xs) (cs := vs1.toArray) (el := e) (cap := n) (c := .ex) he rfl (by simp [CapOK, hlen]) g3 (fun j v hj => by simpa using hj)
          rw [← hlen] at hr
          exact ⟨_, _, h, _, _, S2, σ, hrun _ rfl, t1.trans t2, hr⟩
      · exact absurd h (by simp)
    · exact absurd h (by simp)
  · exact absurd h (by simp)
theorem typeInfo_run {t : TypeId} {d : TypeDesc} (h : und Γ.P t = some d) : ∃ i, (typeInfo t).run Γ.P w = .ok i w ∧ i.bytes = Γ.P.bytesOf t := by
  obtain ⟨i, hi⟩ := info_of_und h
  exact ⟨i, by simp [typeInfo, hi], by simp [Program.bytesOf, hi]⟩
theorem wrap_id {n : Int} (h0 : 0 ≤ n) (h1 : n ≤ 4611686018427387904) : IntKind.i64.wrap n = n := by
  rw [IntKind.wrap_i64]; omega
theorem roomB_spec {n b : Nat} (h : roomB n b = true) : 0 < b ∧ n * b ≤ 70368744177664 ∧ n ≤ 70368744177664 := by
  unfold roomB at h
  simp only [Bool.and_eq_true, decide_eq_true_eq] at h
  have hb : 0 < b := by simpa [Nat.blt_eq] using h.1
  refine ⟨hb, h.2, Nat.le_trans (Nat.le_mul_of_pos_right n hb) h.2⟩
theorem makeSlice_ok (hP : tabOk Γ.P = true) (hZ : zeroOk Γ.P = true) (hM : MemOK Γ w0 S0 X w S σ ob) {t : TypeId} {l c : AV} {vl vc : Value} {K : AV → Objs → Option R} {r : R}
    (hl : RepA Γ.P w S σ ob l vl) (hcv : RepA Γ.P w S σ ob c vc) (h : opMakeSlice Γ.P t l c ob K = some r) : Out Γ w0 S0 X w S σ ob K r (Instr.makeSlice t vl vc) := by
  unfold opMakeSlice at h
  split at h
  · rename_i e hd
    have hs := ds_some hd (by simp)
    obtain ⟨d, he⟩ := elem_slice hP hs
    split at h
    · rename_i k n k' m z hz
      simp only [RepA] at hl hcv
      subst hl; subst hcv
      obtain ⟨hc1, h⟩ := cond_some h
      simp only [Bool.and_eq_true, decide_eq_true_eq] at hc1
      obtain ⟨⟨⟨hfit, h0⟩, hnm⟩, hroom⟩ := hc1
      obtain ⟨hb, hb1, hb2⟩ := roomB_spec hroom
      obtain ⟨zv, hzr, hzb⟩ := zero_ok (w := w) (S := S) (σ := σ) (ob := ob) hP hZ hfit
      have hzt := toD_rep hP hzb hz
      obtain ⟨vs, hvs, hfs⟩ := zero_row hP (n := m.toNat) hzt
      obtain ⟨i, hi, hib⟩ := typeInfo_run (w := w) he
      have hsz := RepFs.size hP _ _ _ hfs
      rw [sumCells_replicate] at hsz
      have w1 : IntKind.i64.wrap n = n := wrap_id h0 (by omega)
      have w2 : IntKind.i64.wrap m = m := wrap_id (by omega) (by omega)
      have hbig : (Γ.P.bytesOf e : Int) * m ≤ 70368744177664 := by
        have : ((m.toNat * Γ.P.bytesOf e : Nat) : Int) ≤ 70368744177664 := Int.ofNat_le.2 hb1
        rw [Int.natCast_mul, Int.toNat_of_nonneg (by omega), Int.mul_comm] at this
        exact this
      have hA : ((decide (m < 0) || decide ((Γ.P.bytesOf e : Int) * m > 2 ^ 48)) || decide (n < 0) || decide (n > m)) = false := by
        simp only [Bool.or_eq_false_iff, decide_eq_false_iff_not]
        refine ⟨⟨⟨by omega, ?_⟩, by omega⟩, by omega⟩
        have h48 : (2 : Int) ^ 48 = 281474976710656 := by decide
        rw [h48]; omega
      have hrun : (Instr.makeSlice t (.int k n) (.int k' m)).run Γ.P w = .ok (.slice (some ⟨w.heap.size, 0, none⟩) n.toNat m.toNat) { w with heap := w.heap.push (.cells vs.toArray e) } := by
        by_cases h0 : m.toNat * Γ.P.cellsOf e = 0
        · simp only [if_pos h0] at hvs
          simp only [Instr.makeSlice, asInt, asIntOf, Sem.run_bind, run_underlying (und_lt hs).2, Result.andThen_ok, sizeOf_run he, Sem.run_pure, hi, hib, w1, w2, hA, Bool.false_eq_true, if_false, run_askRoom]
          rw [if_pos h0]
          simp only [Sem.run_bind, Result.andThen_ok, Sem.run_pure]
          rw [hvs]
          simp only [newRow, newObj, Sem.run_bind, Sem.run_pure, Result.andThen_ok, Sem.run]
        · simp only [if_neg h0] at hvs
          simp only [Instr.makeSlice, asInt, asIntOf, Sem.run_bind, run_underlying (und_lt hs).2, Result.andThen_ok, sizeOf_run he, Sem.run_pure, hi, hib, w1, w2, hA, Bool.false_eq_true, if_false, run_askRoom]
          rw [if_neg h0]
          simp only [Sem.run_bind, hzr, Result.andThen_ok, Sem.run_pure]
          rw [hvs]
          simp only [newRow, newObj, Sem.run_bind, Sem.run_pure, Result.andThen_ok, Sem.run]
      have hfs' : RepFs Γ.P w S (List.replicate n.toNat z) (List.replicate (List.replicate n.toNat z).length e) (List.replicate n.toNat zv.cells.toList).flatten := by
        simpa using zeros_fs hzt n.toNat
      obtain ⟨σ', t2, hr⟩ := newArr_ok (w' := { w with heap := w.heap.push (.cells vs.toArray e) }) hP hM (e := e) (xs := List.replicate n.toNat z) (cs := vs.toArray) (el := e) (cap := m.toNat) false he rfl (by simp [hsz]) (by simp; omega) hfs' (fun j v hj => by
        have hvl : vs = (List.replicate m.toNat zv.cells.toList).flatten := by
          have := RepFs.size hP _ _ _ (zeros_fs hzt m.toNat)
          have h2 := congrArg Array.toList hvs
          refine h2.symm.trans ?_
          by_cases hz0 : m.toNat * Γ.P.cellsOf e = 0
          · rw [sumCells_replicate, hz0] at this
            rw [List.eq_nil_of_length_eq_zero this, hz0]; simp
          · rw [if_neg hz0]; exact zeros_cells _ _ (by have := RepT.size hP _ _ _ hzt; simpa using this)
        rw [hvl, show m.toNat = n.toNat + (m.toNat - n.toNat) by omega, ← List.replicate_append_replicate, List.flatten_append]
        rw [List.toList_toArray, List.getElem?_append_left (getL hj)]; exact hj)
      rw [List.length_replicate] at hr
      exact ⟨_, _, h, _, _, S, σ', hrun, t2, hr⟩
    · exact absurd h (by simp)
  · exact absurd h (by simp)
end
end Go.Proofs.Ytbdekjlnnbjicaa.V
