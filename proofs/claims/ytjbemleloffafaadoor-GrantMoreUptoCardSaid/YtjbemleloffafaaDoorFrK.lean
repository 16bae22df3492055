/- Operations. Part two: stores, new variables, addresses, parts. -/
import Derived.Test.YtjbemleloffafaaDoorFrJ
namespace Go.Proofs.YtjbemleloffafaaDoor.V
open Go
set_option linter.unusedVariables false
set_option linter.unusedSimpArgs false

section
variable {Γ : Ctx} {w0 : World} {S0 : Addr → Prop} {X : XB} {w w' : World} {S S' : Addr → Prop} {σ σ' : Loc} {ob ob' : Objs} {R : Type}

theorem rangeAt_block {P : Program} {b : Nat} {cs : List Value} {el : TypeId} {fr : Nat × Nat} {o : Nat} {vs : List Value} (hb : w.heap[b]? = some (.cells cs.toArray el fr)) (hr : w.rangeAt b o vs) :
    ∀ j v, vs[j]? = some v → cs[o + j]? = some v := by
  intro j v hv
  have := hr j v hv
  simp only [World.cell?, hb] at this
  simpa using this
theorem putCs_mid {A V B V' : List Value} {o : Nat} (ho : A.length = o) (hl : V.length = V'.length) : putCs (A ++ V ++ B) o V' = A ++ V' ++ B := by
  subst ho
  unfold putCs
  rw [← hl]
  have e1 : (A ++ V ++ B).take A.length = A := by rw [List.append_assoc]; simp
  have e2 : (A ++ V ++ B).drop (A.length + V.length) = B := by rw [← List.length_append]; simp
  rw [e1, e2]
theorem storeAt_run {t : TypeId} {b o : Nat} {x : Value} (h : (storeVar t ⟨b, o, none⟩ x).run Γ.P w = .ok () w') : (Instr.storeAt t (.pointer (some ⟨b, o, none⟩)) x).run Γ.P w = .ok () w' := by
  simp [Instr.storeAt, Instr.sureAddr, h]

/-- a row, one of its elements turned -/
theorem RowV.set (hP : tabOk Γ.P = true) {b : Nat} {e : TypeId} {x' : D} {vs' : List Value} (k : Keeps w S w' S') : ∀ {xs : List D} {o i : Nat} {x : D}, RowV Γ.P w S xs e b o → xs[i]? = some x →
    RepT Γ.P w' S' x' e vs' → w'.rangeAt b (o + i * Γ.P.cellsOf e) vs' →
    (∀ n, n < o + i * Γ.P.cellsOf e ∨ o + (i + 1) * Γ.P.cellsOf e ≤ n → w'.cell? ⟨b, n, none⟩ = w.cell? ⟨b, n, none⟩) → RowV Γ.P w' S' (xs.set i x') e b o
  | [], o, i, x, h, hx, _, _, _ => by simp at hx
  | y :: r, o, 0, x, h, hx, hr, hra, hc => by
    simp only [RowV, List.set_cons_zero] at h ⊢
    obtain ⟨vs, h1, h2, h3⟩ := h
    refine ⟨vs', by simpa using hra, hr, ?_⟩
    have hs := RepT.size hP _ _ _ h2
    clear hx
    -- the rest lies behind
    have rest : ∀ {q : List D} {o' : Nat}, o + Γ.P.cellsOf e ≤ o' → RowV Γ.P w S q e b o' → RowV Γ.P w' S' q e b o' := by
      intro q
      induction q with
      | nil => intro o' _ _; simp only [RowV]
      | cons d q ih =>
        intro o' ho' hq
        simp only [RowV] at hq ⊢
        obtain ⟨vd, g1, g2, g3⟩ := hq
        exact ⟨vd, fun j v hv => by rw [hc _ (.inr (by simp; omega))]; exact g1 j v hv, RepT.keep k _ _ _ g2, ih (by omega) g3⟩
    exact rest (Nat.le_refl _) h3
  | y :: r, o, i + 1, x, h, hx, hr, hra, hc => by
    simp only [RowV, List.set_cons_succ] at h ⊢
    obtain ⟨vs, h1, h2, h3⟩ := h
    have hs := RepT.size hP _ _ _ h2
    have e1 : o + (i + 1) * Γ.P.cellsOf e = o + Γ.P.cellsOf e + i * Γ.P.cellsOf e := by rw [Nat.succ_mul]; omega
    have e2 : o + (i + 1 + 1) * Γ.P.cellsOf e = o + Γ.P.cellsOf e + (i + 1) * Γ.P.cellsOf e := by rw [Nat.succ_mul]; omega
    refine ⟨vs, fun j v hv => ?_, RepT.keep k _ _ _ h2, RowV.set hP k h3 (by simpa using hx) hr (by rw [← e1]; exact hra) (fun n hn => hc n (by rw [e1, e2]; exact hn))⟩
    have hj := getL hv
    rw [hc _ (.inl (by rw [e1]; omega))]
    exact h1 j v hv

theorem store_ok (hP : tabOk Γ.P = true) (hM : MemOK Γ w0 S0 X w S σ ob) {t : TypeId} {a x : AV} {va vx : Value} {K : AV → Objs → Option R} {r : R} (ha : RepA Γ.P w S σ ob a va) (hx : RepA Γ.P w S σ ob x vx)
    (h : opStore Γ.P t a x ob K = some r) :
    ∃ ob', K .undef ob' = some r ∧ ∃ w', Trans Γ w0 S0 X w S σ ob w' S σ ob' ∧ (Instr.storeAt t va vx).run Γ.P w = .ok () w' := by
  cases a <;> simp only [opStore] at h
  case ptr j p u =>
    obtain ⟨h1, h2⟩ := cond_some h
    simp only [Bool.and_eq_true] at h1
    obtain ⟨h1, hfit⟩ := h1
    obtain rfl := beq_id h1
    split at h2
    · rename_i tb c hob
      split at h2
      · rename_i c' hset
        simp only [RepA] at ha
        obtain ⟨_, b, off, rfl, ha⟩ := ha
        obtain ⟨rfl, ho⟩ := ha _ _ hob
        have hO := hM.objs j _ hob
        simp only [ObjAt] at hO
        obtain ⟨vs, el, fr, hb, hnf, hud, hl, hbox, hone, hnS⟩ := hO
        have hxB : BV Γ.P w S σ ob (underId Γ.P t) x vx.cells.toList := BV.under hP ⟨hfit, vx, rfl, hx⟩
        obtain ⟨A, V, B, rfl, hA, hVl, hnew⟩ := setA_ok hP p c tb vs off _ x c' _ hbox ho hset hxB
        obtain ⟨hsz, hxo⟩ := fits_size hP x t vx hfit hx
        obtain ⟨d, hd⟩ := fits_has hfit
        refine ⟨_, h2, w.setCells (σ j).1 off vx.cells.toList, ?_, storeAt_run (storeVar_run hP hd hsz hxo hb hnf ?_)⟩
        · have hheap := setCells_heap vx.cells.toList off w (A ++ V ++ B) el fr hb (by simp [hA]; simp at hVl; omega)
          rw [putCs_mid hA hVl] at hheap
          have hk : Keeps w S (w.setCells (σ j).1 off vx.cells.toList) S := fun y hy => ⟨cell_of_heap (setCells_heap_ne (hnS y hy) _ _ _), hy⟩
          refine MemOK.turn hM hob (o' := .box tb c') (by simp [alike]) (fun b hb => setCells_heap_ne hb _ _ _) (setCells_size _ _ _) hk (fun y hy => .inl hy) ?_ (setCells_env _ _ _)
          simp only [ObjAt]
          refine ⟨_, el, fr, hheap, ?_, hud, ?_, BoxV.keep hk (stays_set hob (by simp [alike])) hnew, (hnew.size hP).2, hnS⟩
          · intro o ho; apply hnf; simp at ho hVl ⊢; omega
          · exact (hnew.size hP).1
        · simp [hA]; simp at hVl; omega
      · exact absurd h2 (by simp)
    · exact absurd h2 (by simp)
  case ap j i p u =>
    obtain ⟨h1, h2⟩ := cond_some h
    simp only [Bool.and_eq_true] at h1
    obtain ⟨h1, hty⟩ := h1
    obtain rfl := beq_id h1
    split at h2
    · rename_i e xs y hob hyD
      obtain ⟨x0, hx0, h2⟩ := lGet_some h2
      simp only [RepA] at ha
      obtain ⟨_, b, off, rfl, ha⟩ := ha
      obtain ⟨rfl, o, ho, rfl⟩ := ha _ _ _ hob
      have hO := hM.objs j _ hob
      simp only [ObjAt] at hO
      obtain ⟨cs, el, fr, hb, hnf, hcs, hle, hrow, hel, hS⟩ := hO
      have hnS : ∀ z : Addr, S z → z.block ≠ (σ j).1 := fun z hz hzb => by have := (hS z hz hzb).1; simp at this
      have hfit : fits Γ.P t x = true := by
        unfold fits
        split
        all_goals first
          | exact hty
          | (simp [toD] at hyD; done)
      have hxB : BV Γ.P w S σ ob (underId Γ.P t) x vx.cells.toList := BV.under hP ⟨hfit, vx, rfl, hx⟩
      have hyR := toD_rep hP hxB hyD
      obtain ⟨vs, hr1, hr2⟩ := hrow.get i hx0
      obtain ⟨_, hnav⟩ := nav_total hP p x0 e vs o _ hr2 ho
      obtain ⟨_, A, V, B, _, rfl, hA, hV, hset⟩ := navD_ok hP p x0 e vs o _ _ _ hr2 ho hnav
      have hnew := hset y _ hyR
      have hVl : V.length = vx.cells.toList.length := by rw [RepT.size hP _ _ _ hV, RepT.size hP _ _ _ hyR]
      have hsl := RepT.size hP _ _ _ hr2
      obtain ⟨hsz, hxo⟩ := fits_size hP x t vx hfit hx
      obtain ⟨d, hd⟩ := fits_has hfit
      have hi := getL hx0
      have hcl : (i + 1) * Γ.P.cellsOf e ≤ cs.size := by
        rw [hcs]; exact Nat.mul_le_mul_right _ (by omega)
      have hoff : i * Γ.P.cellsOf e + o + vx.cells.toList.length ≤ cs.size := by
        rw [Nat.succ_mul] at hcl
        simp only [List.length_append] at hsl
        omega
      have hb' : w.heap[(σ j).1]? = some (.cells cs.toList.toArray el fr) := by simpa using hb
      refine ⟨_, h2, w.setCells (σ j).1 (i * Γ.P.cellsOf e + o) vx.cells.toList, ?_, storeAt_run (storeVar_run hP hd hsz hxo hb' (by simpa using hnf) (by simpa using hoff))⟩
      have hheap := setCells_heap vx.cells.toList (i * Γ.P.cellsOf e + o) w cs.toList el fr hb' (by simpa using hoff)
      have hk : Keeps w S (w.setCells (σ j).1 (i * Γ.P.cellsOf e + o) vx.cells.toList) S := fun y hy => ⟨cell_of_heap (setCells_heap_ne (hnS y hy) _ _ _), hy⟩
      have hps : (putCs cs.toList (i * Γ.P.cellsOf e + o) vx.cells.toList).length = cs.size := by
        unfold putCs; simp at hoff ⊢; omega
      have hcell : ∀ j', j' < vx.cells.toList.length → (w.cell? ⟨(σ j).1, i * Γ.P.cellsOf e + o + j', none⟩).isSome = true := by
        intro j' hj'
        simp only [World.cell?, hb, Option.isSome_none, Bool.false_eq_true, if_false]
        rw [Array.getElem?_eq_getElem (by omega)]; rfl
      refine MemOK.turn hM hob (o' := .arr e (xs.set i (setD p x0 y)) false) (by simp [alike]) (fun b hb => setCells_heap_ne hb _ _ _) (setCells_size _ _ _) hk (fun y hy => .inl hy) ?_ (setCells_env _ _ _)
      simp only [ObjAt]
      refine ⟨_, el, fr, hheap, ?_, by simpa [hps] using hcs, by simpa using hle, ?_, hel, fun z hz hzb => absurd hzb (hnS z hz)⟩
      · intro o' ho'; apply hnf; simpa [hps] using ho'
      · refine RowV.set hP hk hrow hx0 (RepT.keep hk _ _ _ hnew) ?_ ?_
        · -- the element's cells now
          intro q v hv
          simp only [Nat.zero_add]
          by_cases hq1 : q < A.length
          · rw [World.cell?_setCells_out _ _ _ _ _ (by intro _ _; left; simp; omega)]
            have := hr1 q v (by rw [List.append_assoc, List.getElem?_append_left hq1] at hv ⊢; exact hv)
            simpa using this
          · rw [List.append_assoc, List.getElem?_append_right (by omega)] at hv
            by_cases hq2 : q - A.length < vx.cells.toList.length
            · rw [List.getElem?_append_left hq2] at hv
              have := World.cell?_setCells_in (σ j).1 vx.cells.toList (i * Γ.P.cellsOf e + o) w hcell (q - A.length) hq2
              rw [show i * Γ.P.cellsOf e + q = i * Γ.P.cellsOf e + o + (q - A.length) by omega, this]
              rw [List.getElem?_eq_getElem hq2] at hv
              exact hv
            · rw [List.getElem?_append_right (by omega)] at hv
              rw [World.cell?_setCells_out _ _ _ _ _ (by intro _ _; right; simp at hq2 ⊢; omega)]
              have := hr1 q v (by
                rw [List.append_assoc, List.getElem?_append_right (by omega), List.getElem?_append_right (by omega), hVl]; exact hv)
              simpa using this
        · intro n hn
          simp only [Nat.zero_add] at hn
          refine World.cell?_setCells_out _ _ _ _ _ (by
            intro _ _
            rcases hn with hn | hn
            · left; show n < _; omega
            · right
              show _ ≤ n
              rw [Nat.succ_mul] at hn
              simp only [List.length_append] at hsl
              omega)
    · exact absurd h2 (by simp)
  all_goals exact absurd h (by simp)

/-! ### new variables -/
theorem newVar_ok (hP : tabOk Γ.P = true) (hM : MemOK Γ w0 S0 X w S σ ob) {e el : TypeId} {x : AV} {v : Value} (hf : fits Γ.P e x = true) (hx : RepA Γ.P w S σ ob x v) (hel : underId Γ.P el = underId Γ.P e ∧ Γ.P.cellsOf el = Γ.P.cellsOf e := by exact ⟨rfl, rfl⟩) :
    ∃ w' σ', (newVar el v).run Γ.P w = .ok ⟨w.heap.size, 0, none⟩ w' ∧ Trans Γ w0 S0 X w S σ ob w' S σ' (ob ++ [some (.box (underId Γ.P e) x)]) ∧
      RepA Γ.P w' S σ' (ob ++ [some (.box (underId Γ.P e) x)]) (.ptr ob.length [] (underId Γ.P e)) (.pointer (some ⟨w.heap.size, 0, none⟩)) := by
  obtain ⟨hsz, hone⟩ := fits_size hP x e v hf hx
  obtain ⟨d, hd⟩ := fits_has hf
  obtain ⟨u1, u2, _, u4⟩ := underId_spec hP hd
  let w1 : World := { w with heap := w.heap.push (.cells v.cells el) }
  have t1 : Trans Γ w0 S0 X w S σ ob w1 S σ ob := hM.more (fun b hb => by simp only [w1, Array.getElem?_push]; rw [if_neg (by omega)]) (by simp [w1]) (fun _ h => h) (fun _ h => .inl h)
  have k1 : Keeps w S w1 S := fun y hy => ⟨cell_of_heap (by have := hM.sin y hy; simp only [w1, Array.getElem?_push]; rw [if_neg (by omega)]), hy⟩
  have st : Stays σ ob (locMore σ ob.length w.heap.size 0) (ob ++ [some (.box (underId Γ.P e) x)]) := stays_more
  have t2 := MemOK.add t1.1 (o := .box (underId Γ.P e) x) (b := w.heap.size) (c := 0) (by simp [w1]) (.inr hM.grow)
    (fun j o' ho => by have := (hM.own j o' ho).2; omega) (by
      simp only [ObjAt, more_new]
      refine ⟨v.cells.toList, el, (0, 0), by simp [w1], fun o _ h => by simp at h, ⟨u4, hel.1, hel.2.trans u2.symm⟩, ?_, ?_, hone, fun y hy => by have := hM.sin y hy; omega⟩
      · rw [u2]; simpa using hsz
      · exact ⟨fits_ty hP u4.symm hf ⟨d, u1⟩, v, rfl, RepA.keep k1 st x v hx⟩)
  refine ⟨w1, _, rfl, t1.trans t2, ?_⟩
  simp only [RepA]
  refine ⟨by simp, w.heap.size, 0, rfl, fun tj c hc => ?_⟩
  rcases get_more hc with ⟨hl, _⟩ | ⟨_, he⟩
  · omega
  · cases he
    rw [more_new]
    exact ⟨rfl, by simp only [offP, u1, u4, Option.map_some]⟩
end
end Go.Proofs.YtjbemleloffafaaDoor.V
