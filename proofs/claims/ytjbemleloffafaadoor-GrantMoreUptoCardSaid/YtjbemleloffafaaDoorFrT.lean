/- Regions: a list of operations. -/
import Derived.Test.YtjbemleloffafaaDoorFrS
namespace Go.Proofs.YtjbemleloffafaaDoor.V
open Go
set_option linter.unusedVariables false
set_option linter.unusedSimpArgs false

section
variable {Γ : Ctx} {w0 : World} {S0 : Addr → Prop} {X : XB} {w w' : World} {S S' : Addr → Prop} {σ σ' : Loc} {ob ob' : Objs} {R : Type}

/-- temporaries and objects stand for what the frame and the memory hold -/
structure StOK (Γ : Ctx) (w0 : World) (S0 : Addr → Prop) (X : XB) (n : Nat) (st : St) (a : Act) (w : World) (S : Addr → Prop) (σ : Loc) : Prop where
  mem : MemOK Γ w0 S0 X w S σ st.ob
  tm : ∀ t, RepA Γ.P w S σ st.ob (get st.tm t) (a.tmps.getD t undef)
  size : n ≤ a.tmps.size
  defers : a.defers = []

theorem get_put (dst : Option Nat) (v : AV) (tm : Tm) (t : Nat) : get (put dst v tm) t = if dst = some t then v else get tm t := by
  cases dst with
  | none => simp [put]
  | some d =>
    simp only [put, get, Option.some.injEq]
    by_cases h : d = t
    · subst h; simp
    · rw [if_neg h]
      cases hb : Nat.beq d t with
      | true => exact absurd (beq_id hb) h
      | false => rfl
theorem getD_put (a : Act) (dst : Option Nat) (v : Value) (t : Nat) (hd : ∀ d, dst = some d → d < a.tmps.size) : (a.put dst v).tmps.getD t undef = if dst = some t then v else a.tmps.getD t undef := by
  cases dst with
  | none => simp [Act.put]
  | some d =>
    simp only [Act.put, Option.some.injEq]
    by_cases h : d = t
    · subst h
      have := hd d rfl
      simp [this]
    · rw [if_neg h]
      simp [Array.getElem?_setIfInBounds_ne h]
theorem StOK.put {n : Nat} {st : St} {a : Act} {av : AV} {ob' : Objs} {v : Value} {dst : Option Nat} (h : StOK Γ w0 S0 X n st a w S σ) (ht : Trans Γ w0 S0 X w S σ st.ob w' S' σ' ob') (hv : RepA Γ.P w' S' σ' ob' av v)
    (hd : ∀ d, dst = some d → d < n) : StOK Γ w0 S0 X n ⟨V.put dst av st.tm, ob'⟩ (a.put dst v) w' S' σ' := by
  refine ⟨ht.1, fun t => ?_, ?_, ?_⟩
  · simp only
    rw [get_put, getD_put a dst v t (fun d e => Nat.lt_of_lt_of_le (hd d e) h.size)]
    by_cases hc : dst = some t
    · rw [if_pos hc, if_pos hc]; exact hv
    · rw [if_neg hc, if_neg hc]; exact ht.2 _ _ (h.tm t)
  · cases dst <;> simp [Act.put, h.size]
  · cases dst <;> simp [Act.put, h.defers]
theorem ofConst_ok {P : Program} (v : Value) : RepA P w S σ ob (ofConst v) v := by
  unfold ofConst
  split <;> simp only [RepA]
  · exact ⟨_, rfl, rfl⟩
  · exact .inl ⟨trivial, trivial⟩
theorem evo_ok {n : Nat} {st : St} {a : Act} (h : StOK Γ w0 S0 X n st a w S σ) (x : Operand) : RepA Γ.P w S σ st.ob (evo Γ st.tm x) (a.eval x) := by
  cases x with
  | tmp t => exact h.tm t
  | const v => exact ofConst_ok v
  | global g =>
    simp only [evo, Act.eval]
    cases hg : Γ.G g with
    | none => simp only [RepA]
    | some p =>
      obtain ⟨t, x⟩ := p
      obtain ⟨vs, h1, h2⟩ := h.mem.glob.data g t x hg
      simp only [RepA]
      exact ⟨g, 0, vs, rfl, h1, h2.1⟩
  | func f =>
    simp only [evo, Act.eval, RepA]
    exact ⟨[], rfl, by simp only [RepAs]⟩
/-- one operation of a region, wanted -/
theorem oper_ok (hP : tabOk Γ.P = true) (hZ : zeroOk Γ.P = true) {call : Handle} (hc : CallsOK Γ call) {f : FuncId} {n : Nat} {st : St} {a : Act} {o : Oper} (h : StOK Γ w0 S0 X n st a w S σ)
    (hd : ∀ d, o.dst = some d → d < n) {K : AV → Objs → Option R} {r : R} (hs : stepOp Γ call f o (evo Γ st.tm) st.ob K = some r) {next : Act → World → Prop} {Q : Exit → Act → World → Prop}
    (hn : ∀ av ob' a' w' S' σ', K av ob' = some r → StOK Γ w0 S0 X n ⟨V.put o.dst av st.tm, ob'⟩ a' w' S' σ' → next a' w') : o.wp Γ.P a w next Q := by
  obtain ⟨av, ob', hK, hg⟩ := stepOp_ok hP hZ h.mem hc (evo_ok h) rfl hs
  unfold Oper.wp
  unfold OpGood at hg
  exact upon_of hg fun v w' ⟨S', σ', ht, hv⟩ => hn av ob' _ _ S' σ' hK (h.put ht hv hd)
theorem skip_rep {P : Program} : RepA P w S σ ob (.tuple []) undef := by
  simp only [RepA]; exact ⟨[], rfl, by simp only [RepAs]⟩
theorem yielded_skip {P : Program} {ops : Array Oper} {tmps : Array Value} {j d : Nat} (hd : (ops.toList[j]?).bind (·.dst) = some d) (h : RepA P w S σ ob (.tuple []) (tmps.getD d undef)) : yielded ops tmps j = none := by
  simp only [RepA, RepAs] at h
  obtain ⟨vs, h, rfl⟩ := h
  unfold yielded
  have : (ops[j]?).bind (·.dst) = some d := by simpa using hd
  rw [this]
  simp only [Option.bind_some]
  rw [Array.getD_eq_getD_getElem?] at h
  cases hq : tmps[d]? with
  | none => rfl
  | some v =>
    rw [hq] at h
    simp only [Option.getD_some] at h
    rw [h]
theorem guard_ok {n : Nat} {st : St} {a : Act} {ops : Array Oper} {o : Oper} (h : StOK Γ w0 S0 X n st a w S σ) {K : Bool → Tm → Option R} {r : R} (hs : guardK ops.toList o st.tm K = some r) :
    ∃ b tm, K b tm = some r ∧ Region.wanted o (yielded ops a.tmps) = b ∧ StOK Γ w0 S0 X n ⟨tm, st.ob⟩ a w S σ := by
  unfold guardK at hs
  split at hs
  · rename_i hg
    exact ⟨true, st.tm, hs, by simp [Region.wanted, hg], h⟩
  · rename_i j want hg
    split at hs
    · exact absurd hs (by simp)
    · rename_i d hd
      split at hs
      · rename_i x hx
        have htm := h.tm d
        rw [hx] at htm
        simp only [RepA] at htm
        have hdz : d < a.tmps.size := by
          rcases Nat.lt_or_ge d a.tmps.size with hlt | hge
          · exact hlt
          · rw [Array.getD_eq_getD_getElem?, Array.getElem?_eq_none hge] at htm; simp [undef] at htm
        have hy : yielded ops a.tmps j = some x := by
          unfold yielded
          have : (ops[j]?).bind (·.dst) = some d := by simpa using hd
          rw [this]
          simp only [Option.bind_some]
          rw [Array.getElem?_eq_getElem hdz]
          rw [Array.getD_eq_getD_getElem?, Array.getElem?_eq_getElem hdz] at htm
          simp only [Option.getD_some] at htm
          rw [htm]
        have hst : ∀ y, y = x → StOK Γ w0 S0 X n ⟨(d, .b y) :: st.tm, st.ob⟩ a w S σ := by
          rintro y rfl
          refine ⟨h.mem, fun t => ?_, h.size, h.defers⟩
          have := get_put (some d) (.b y) st.tm t
          simp only [V.put] at this
          simp only
          rw [this]
          by_cases hdt : some d = some t
          · rw [if_pos hdt]; cases hdt; simp only [RepA]; exact htm
          · rw [if_neg hdt]; exact h.tm t
        rcases cond_cases hs with ⟨rfl, hs⟩ | ⟨rfl, hs⟩
        · exact ⟨_, _, hs, by simp [Region.wanted, hg, hy], hst _ rfl⟩
        · exact ⟨_, _, hs, by simp [Region.wanted, hg, hy], hst _ rfl⟩
      · rename_i hx
        have htm := h.tm d
        rw [hx] at htm
        have hy : yielded ops a.tmps j = none := yielded_skip hd htm
        exact ⟨false, _, hs, by simp [Region.wanted, hg, hy], h⟩
      · exact absurd hs (by simp)
/-- the operations of a region, one after the other -/
theorem stepOps_ok (hP : tabOk Γ.P = true) (hZ : zeroOk Γ.P = true) {call : Handle} (hc : CallsOK Γ call) {f : FuncId} {n : Nat} {ops : Array Oper} {K : St → Option R} {r : R} {Q : Exit → Act → World → Prop}
    (hQ : ∀ st a w S σ, K st = some r → StOK Γ w0 S0 X n st a w S σ → Q .normal a w) (hd : ∀ o ∈ ops.toList, ∀ d, o.dst = some d → d < n) :
    ∀ (l : List Oper) (k : Nat), ops.toList.drop k = l → ∀ (st : St) (a : Act) (w : World) (S : Addr → Prop) (σ : Loc), StOK Γ w0 S0 X n st a w S σ → stepOps Γ call f ops.toList l st K = some r →
      wpOps Γ.P ops Q ((List.range ops.size).drop k) a w
  | [], k, hl, st, a, w, S, σ, h, hs => by
    have : ops.size ≤ k := by have := List.drop_eq_nil_iff.1 hl; simpa using this
    rw [List.drop_eq_nil_of_le (by simpa using this)]
    simp only [stepOps] at hs
    simp only [wpOps]
    exact hQ _ _ _ _ _ hs h
  | o :: l, k, hl, st, a, w, S, σ, h, hs => by
    have hk : ops.toList[k]? = some o := by
      have := congrArg (·[0]?) hl
      simpa using this
    have hkl := getL hk
    have hok : ops[k]? = some o := by simpa using hk
    have hl2 : ops.toList.drop (k + 1) = l := by
      rw [← List.drop_drop, hl]; rfl
    rw [List.drop_eq_getElem_cons (by simpa using hkl), List.getElem_range]
    have hdo : ∀ d, o.dst = some d → d < n := hd o (List.mem_of_getElem? hk)
    simp only [stepOps] at hs
    obtain ⟨b, tm, hs, hw, h'⟩ := guard_ok h hs
    simp only [wpOps, hok, hw]
    rcases cond_cases hs with ⟨rfl, hs2⟩ | ⟨rfl, hs2⟩
    · simp only [if_true]
      refine .inl (oper_ok hP hZ hc h' hdo hs2 fun av ob' a' w' S' σ' hK hst => ?_)
      exact stepOps_ok hP hZ hc hQ hd l (k + 1) hl2 _ a' w' S' σ' hst hK
    · simp only [Bool.false_eq_true, if_false]
      exact stepOps_ok hP hZ hc hQ hd l (k + 1) hl2 _ _ w S σ (h'.put (Trans.refl h'.mem) skip_rep hdo) hs2
end
end Go.Proofs.YtjbemleloffafaaDoor.V
