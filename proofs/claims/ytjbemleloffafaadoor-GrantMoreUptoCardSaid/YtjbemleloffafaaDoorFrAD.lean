/- Regions whose order is open: whatever the order, calm operations come to the same. -/
import Derived.Test.YtjbemleloffafaaDoorFrT
import Derived.Test.YtjbemleloffafaaDoorFrAC
namespace Go.Proofs.YtjbemleloffafaaDoor.V
open Go
set_option linter.unusedVariables false
set_option linter.unusedSimpArgs false

section
variable {Γ : Ctx} {w0 : World} {S0 : Addr → Prop} {X : XB} {w w' : World} {S S' : Addr → Prop} {σ σ' : Loc} {ob ob' : Objs} {R : Type}

/-! ### an operation looks at its operands alone -/
theorem stepOp_congr {call : Handle} {f : FuncId} {o : Oper} {ρ ρ' : Operand → AV} (h : ∀ x ∈ o.op.operands, ρ x = ρ' x) (K : AV → Objs → Option R) :
    stepOp Γ call f o ρ ob K = stepOp Γ call f o ρ' ob K := by
  obtain ⟨dst, op, type, pos, after, guard⟩ := o
  have pairs : ∀ ps : Array (Nat × Operand), (∀ x ∈ ps.map (·.2), ρ x = ρ' x) →
      (ps.toList.map fun p => (p.1, ρ p.2)) = (ps.toList.map fun p => (p.1, ρ' p.2)) := fun ps hp => by
    refine List.map_congr_left fun p hm => ?_
    rw [hp p.2 (Array.mem_map.2 ⟨p, by simpa using hm, rfl⟩)]
  cases op <;> simp only [Op.operands] at h <;> simp only [stepOp]
  case build t ps => rw [pairs ps fun x hx => h x (by simpa using hx)]
  case buildSlice t n ps => rw [pairs ps fun x hx => h x (by simpa using hx)]
  case call c =>
    have hargs : c.args.toList.map ρ = c.args.toList.map ρ' := List.map_congr_left fun x hx => h x (by simp [Call.operands]; exact .inr (by simpa using hx))
    simp only [hargs]
    cases hc : c.callee with
    | value g => have hf : ρ g = ρ' g := h g (by simp [Call.operands, hc]); simp only [hf]
    | invoke r m => rfl
    | builtin b => rfl
  case slice t x lo hi mx => cases lo <;> cases hi <;> cases mx <;> simp_all
  all_goals (first | rfl | (simp_all; done))

def evoE (Γ : Ctx) (E : Nat → AV) : Operand → AV
  | .tmp t => E t
  | .const v => ofConst v
  | .global g => match Γ.G g with
    | some (t, x) => .vp t x
    | none => .undef
  | .func f => .fn f []
theorem evo_E (tm : Tm) : evo Γ tm = evoE Γ (get tm) := by
  funext x; cases x <;> rfl
def upd (E : Nat → AV) (dst : Option Nat) (v : AV) : Nat → AV := fun t => if dst = some t then v else E t
theorem put_upd (dst : Option Nat) (v : AV) (tm : Tm) : get (V.put dst v tm) = upd (get tm) dst v := by
  funext t; rw [get_put]; rfl

/-- what a calm operation does, in the order of the text -/
structure Good (Γ : Ctx) (call : Handle) (f : FuncId) (al : Bool) (ops : List Oper) (ob : Objs) (o : Oper) (E : Nat → AV) (av : AV) : Prop where
  is : ∃ b : Bool, ((o.guard = none ∧ b = true) ∨ (∃ j want d x, o.guard = some (j, want) ∧ (ops[j]?).bind (·.dst) = some d ∧ E d = .b x ∧ b = (want == x)) ∨ ∃ j want d, o.guard = some (j, want) ∧ (ops[j]?).bind (·.dst) = some d ∧ E d = .tuple [] ∧ b = false) ∧
    (b = true → (∀ (R : Type) (K : AV → Objs → Option R), stepOp Γ (calmH call) f o (evoE Γ E) ob K = K av ob) ∧ (al = true → ∀ (x : Objs) (R : Type) (K : AV → Objs → Option R), stepOp Γ (calmH call) f o (evoE Γ E) (ob ++ x) K = K av (ob ++ x))) ∧ (b = false → av = .tuple [])
theorem guard_E {ops : List Oper} {o : Oper} {tm : Tm} {K : Bool → Tm → Option R} {r : R} (hs : guardK ops o tm K = some r) :
    ∃ b tm', K b tm' = some r ∧ get tm' = get tm ∧ ((o.guard = none ∧ b = true) ∨ (∃ j want d x, o.guard = some (j, want) ∧ (ops[j]?).bind (·.dst) = some d ∧ get tm d = .b x ∧ b = (want == x)) ∨ ∃ j want d, o.guard = some (j, want) ∧ (ops[j]?).bind (·.dst) = some d ∧ get tm d = .tuple [] ∧ b = false) := by
  unfold guardK at hs
  split at hs
  · rename_i hg; exact ⟨true, tm, hs, rfl, .inl ⟨hg, rfl⟩⟩
  · rename_i j want hg
    split at hs
    · exact absurd hs (by simp)
    · rename_i d hd
      split at hs
      · rename_i x hx
        have hget : ∀ y, y = x → get ((d, .b y) :: tm) = get tm := by
          rintro y rfl
          have := put_upd (some d) (.b y) tm
          simp only [V.put] at this
          rw [this]
          funext t
          simp only [upd]
          by_cases h : some d = some t
          · rw [if_pos h]; cases h; exact hx.symm
          · rw [if_neg h]
        rcases cond_cases hs with ⟨rfl, hs⟩ | ⟨rfl, hs⟩
        · exact ⟨_, _, hs, hget _ rfl, .inr (.inl ⟨j, want, d, true, hg, hd, hx, rfl⟩)⟩
        · exact ⟨_, _, hs, hget _ rfl, .inr (.inl ⟨j, want, d, false, hg, hd, hx, rfl⟩)⟩
      · rename_i hx
        exact ⟨false, tm, hs, rfl, .inr (.inr ⟨j, want, d, hg, hd, hx, rfl⟩)⟩
      · exact absurd hs (by simp)
/-- what an operation does that makes an object -/
def Makes (Γ : Ctx) (call : Handle) (f : FuncId) (al : Bool) (ob : Objs) (o : Oper) (E : Nat → AV) (T T' : Objs) (av : AV) : Prop :=
  isMk o = true ∧ al = true ∧ ∀ (R : Type) (K : AV → Objs → Option R), stepOp Γ (calmH call) f o (evoE Γ E) (ob ++ T) K = K av (ob ++ T')
theorem mk_guard {o : Oper} (h : isMk o = true) : o.guard = none := by
  obtain ⟨dst, op, type, pos, after, guard⟩ := o
  cases guard with
  | none => rfl
  | some p => cases op <;> exact Bool.noConfusion (show false = true from h)
theorem plan_of {call : Handle} {f : FuncId} {al : Bool} {ops : List Oper} {K : St → Option R} {r : R} : ∀ (l : List Oper) (T : Objs) (tm : Tm), stepOpsD Γ call f al ops l T ⟨tm, ob⟩ K = some r →
    ∃ (avs : Nat → AV) (Es : Nat → Nat → AV) (Ts : Nat → Objs) (tm' : Tm), Es 0 = get tm ∧ Ts 0 = T ∧ (∀ i o, l[i]? = some o → (Makes Γ call f al ob o (Es i) (Ts i) (Ts (i + 1)) (avs i) ∨ (isMk o = false ∧ Ts (i + 1) = Ts i ∧ Good Γ call f al ops ob o (Es i) (avs i))) ∧ Es (i + 1) = upd (Es i) o.dst (avs i)) ∧
      K ⟨tm', ob ++ Ts l.length⟩ = some r ∧ get tm' = Es l.length
  | [], T, tm, h => ⟨fun _ => .undef, fun _ => get tm, fun _ => T, tm, rfl, rfl, fun i o hi => (by simp at hi), h, rfl⟩
  | o :: l, T, tm, h => by
    have cons : ∀ (av : AV) (T' : Objs) (tm1 : Tm), get tm1 = get tm → (Makes Γ call f al ob o (get tm) T T' av ∨ (isMk o = false ∧ T' = T ∧ Good Γ call f al ops ob o (get tm) av)) → stepOpsD Γ call f al ops l T' ⟨V.put o.dst av tm1, ob⟩ K = some r →
        ∃ (avs : Nat → AV) (Es : Nat → Nat → AV) (Ts : Nat → Objs) (tm' : Tm), Es 0 = get tm ∧ Ts 0 = T ∧ (∀ i o', (o :: l)[i]? = some o' → (Makes Γ call f al ob o' (Es i) (Ts i) (Ts (i + 1)) (avs i) ∨ (isMk o' = false ∧ Ts (i + 1) = Ts i ∧ Good Γ call f al ops ob o' (Es i) (avs i))) ∧ Es (i + 1) = upd (Es i) o'.dst (avs i)) ∧
          K ⟨tm', ob ++ Ts (o :: l).length⟩ = some r ∧ get tm' = Es (o :: l).length := by
      intro av T' tm1 hget h1 h3
      obtain ⟨avs, Es, Ts, tm', g1, g0, g2, g5, g6⟩ := plan_of l _ _ h3
      refine ⟨fun i => match i with | 0 => av | i + 1 => avs i, fun i => match i with | 0 => get tm | i + 1 => Es i, fun i => match i with | 0 => T | i + 1 => Ts i, tm', rfl, rfl, fun i o' hi => ?_, g5, g6⟩
      cases i with
      | zero =>
        simp only [List.getElem?_cons_zero, Option.some.injEq] at hi
        subst hi
        refine ⟨?_, by simp only [g1, put_upd, hget]⟩
        simp only [g0]
        exact h1
      | succ i => exact g2 i o' (by simpa using hi)
    simp only [stepOpsD] at h
    rcases cond_cases h with ⟨hm, h⟩ | ⟨hm, h⟩
    · obtain ⟨hc, h⟩ := cond_some h
      simp only [Bool.and_eq_true] at hc
      rw [evo_E] at hc h
      rcases mk_ok Γ call f o (evoE Γ (get tm)) ob T hm hc.2 with ⟨av, T', hav⟩ | hav
      · have hav : ∀ (R : Type) (K : AV → Objs → Option R), stepOp Γ (calmH call) f o (evoE Γ (get tm)) (ob ++ T) K = K av (ob ++ T') := hav
        rw [hav, List.drop_left] at h
        exact cons av T' tm rfl (.inl ⟨hm, hc.1, hav⟩) h
      · have hav : ∀ (R : Type) (K : AV → Objs → Option R), stepOp Γ (calmH call) f o (evoE Γ (get tm)) (ob ++ T) K = none := hav
        rw [hav] at h
        exact absurd h (by simp)
    · obtain ⟨b, tm1, h, hget, hw⟩ := guard_E h
      rcases cond_cases h with ⟨rfl, h⟩ | ⟨rfl, h⟩
      · obtain ⟨hc, h⟩ := cond_some h
        simp only [Bool.and_eq_true, Bool.or_eq_true, Bool.not_eq_true'] at hc
        have hev : evo Γ tm1 = evoE Γ (get tm) := by rw [evo_E, hget]
        rw [hev] at hc h
        rcases calm2_ok Γ call f o (evoE Γ (get tm)) ob hc.1 with ⟨av, hav, hav2⟩ | hav
        · refine cons av T tm1 hget (.inr ⟨hm, rfl, ⟨true, hw, fun _ => ⟨hav, fun hal => hav2 ?_⟩, fun h => by simp at h⟩⟩) (by have := hav R (fun v ob' => stepOpsD Γ call f al ops l T ⟨V.put o.dst v tm1, ob'⟩ K); rw [← this]; exact h)
          rcases hc.2 with h0 | h0
          · rw [hal] at h0; cases h0
          · exact h0
        · have := hav R (fun v ob' => stepOpsD Γ call f al ops l T ⟨V.put o.dst v tm1, ob'⟩ K)
          rw [this] at h
          exact absurd h (by simp)
      · exact cons (.tuple []) T tm1 hget (.inr ⟨hm, rfl, ⟨false, hw, fun h => by simp at h, fun _ => rfl⟩⟩) h
/-- nothing is made between -/
theorem same_T {l : List Oper} {Ts : Nat → Objs} (h : ∀ i o, l[i]? = some o → isMk o = false → Ts (i + 1) = Ts i) : ∀ (n j : Nat), n ≤ j → j ≤ l.length → (∀ i o, n ≤ i → i < j → l[i]? = some o → isMk o = false) → Ts j = Ts n
  | n, 0, hn, _, _ => by rw [show n = 0 by omega]
  | n, j + 1, hn, hj, hno => by
    rcases Nat.lt_or_ge j n with hl | hl
    · rw [show n = j + 1 by omega]
    · obtain ⟨o, ho⟩ : ∃ o, l[j]? = some o := ⟨_, List.getElem?_eq_getElem (by omega)⟩
      rw [h j o ho (hno j o hl (Nat.lt_succ_self j) ho)]
      exact same_T h n j hl (by omega) fun i o h1 h2 => hno i o h1 (by omega)
theorem nodup_get {l : List Oper} : (dstsL l).Nodup → ∀ {i j : Nat} {o p : Oper} {t : Nat}, l[i]? = some o → l[j]? = some p → o.dst = some t → p.dst = some t → i = j := by
  induction l with
  | nil => intro _ i j o p t hi; simp at hi
  | cons a l ih =>
    intro hn i j o p t hi hj ho hp
    have hmem : ∀ {k : Nat} {q : Oper}, l[k]? = some q → q.dst = some t → t ∈ dstsL l := fun hk hq => List.mem_filterMap.2 ⟨_, List.mem_of_getElem? hk, hq⟩
    have hl : (dstsL l).Nodup := by
      unfold dstsL at hn ⊢
      cases ha : a.dst with
      | none => rw [List.filterMap_cons_none ha] at hn; exact hn
      | some d => rw [List.filterMap_cons_some ha] at hn; exact (List.nodup_cons.1 hn).2
    have hhead : a.dst = some t → t ∉ dstsL l := fun ha => by
      unfold dstsL at hn ⊢
      rw [List.filterMap_cons_some ha] at hn
      exact (List.nodup_cons.1 hn).1
    cases i with
    | zero =>
      cases j with
      | zero => rfl
      | succ j =>
        simp only [List.getElem?_cons_zero, Option.some.injEq] at hi
        subst hi
        exact absurd (hmem (by simpa using hj) hp) (hhead ho)
    | succ i =>
      cases j with
      | zero =>
        simp only [List.getElem?_cons_zero, Option.some.injEq] at hj
        subst hj
        exact absurd (hmem (by simpa using hi) ho) (hhead hp)
      | succ j =>
        have : i = j := ih hl (by simpa using hi) (by simpa using hj) ho hp
        rw [this]

theorem es_spec {l : List Oper} (hn : (dstsL l).Nodup) {avs : Nat → AV} {Es : Nat → Nat → AV} (h : ∀ i o, l[i]? = some o → Es (i + 1) = upd (Es i) o.dst (avs i)) (t : Nat) : ∀ i, i ≤ l.length →
    (∀ j o, j < i → l[j]? = some o → o.dst = some t → Es i t = avs j) ∧ ((∀ j o, j < i → l[j]? = some o → o.dst ≠ some t) → Es i t = Es 0 t)
  | 0, _ => ⟨fun j o hj => by omega, fun _ => rfl⟩
  | i + 1, hi => by
    obtain ⟨o, ho⟩ : ∃ o, l[i]? = some o := ⟨_, List.getElem?_eq_getElem (by omega)⟩
    obtain ⟨g1, g2⟩ := es_spec hn h t i (by omega)
    rw [h i o ho]
    refine ⟨fun j p hj hp hd => ?_, fun hno => ?_⟩
    · simp only [upd]
      by_cases hc : o.dst = some t
      · rw [if_pos hc, nodup_get hn ho hp hc hd]
      · rw [if_neg hc]
        refine g1 j p ?_ hp hd
        rcases Nat.lt_or_ge j i with hl | hl
        · exact hl
        · have : j = i := by omega
          subst this
          rw [ho] at hp; cases hp
          exact absurd hd hc
    · simp only [upd]
      rw [if_neg (hno i o (by omega) ho)]
      exact g2 fun j p hj hp => hno j p (by omega) hp

/-! ### the check of a region -/
theorem fold_bit {A : List Nat} {j : Nat} : ∀ (es : List Edge) (m : Nat), (es.foldl (fun m e => bif Region.binds .any e then Nat.lor (Nat.lor m (Nat.shiftLeft 1 e.on)) (A.getD e.on 0) else m) m).testBit j = true →
    m.testBit j = true ∨ ∃ e ∈ es, Region.binds .any e = true ∧ (e.on = j ∨ (A.getD e.on 0).testBit j = true)
  | [], m, h => .inl h
  | e :: es, m, h => by
    simp only [List.foldl_cons] at h
    rcases fold_bit es _ h with h | ⟨e', h1, h2⟩
    · cases hb : Region.binds .any e with
      | false => rw [hb] at h; exact .inl h
      | true =>
        rw [hb] at h
        simp only [cond_true] at h
        have h' : ((m ||| (1 <<< e.on)) ||| A.getD e.on 0).testBit j = true := h
        rw [Nat.testBit_or, Nat.testBit_or] at h'
        simp only [Bool.or_eq_true] at h'
        rcases h' with (h' | h') | h'
        · exact .inl h'
        · rw [Nat.one_shiftLeft, Nat.testBit_two_pow] at h'
          exact .inr ⟨e, by simp, hb, .inl (by simpa using h')⟩
        · exact .inr ⟨e, by simp, hb, .inr h'⟩
    · exact .inr ⟨e', by simp [h1], h2⟩
theorem zip_all {l : List Oper} {p : Oper × Nat → Bool} (h : l.zipIdx.all p = true) {i : Nat} {o : Oper} (hi : l[i]? = some o) : p (o, i) = true :=
  List.all_eq_true.1 h _ (by rw [List.mem_zipIdx_iff_getElem?]; simpa using hi)
structure Draws (ops pre : List Oper) (A : List Nat) : Prop where
  anc : ∀ i o, ops[i]? = some o → ∀ j, (A.getD i 0).testBit j = true → ∃ e ∈ o.after, Region.binds .any e = true ∧ (e.on = j ∨ (A.getD e.on 0).testBit j = true)
  back : ∀ i o, ops[i]? = some o → ∀ e ∈ o.after, Region.binds .any e = true → e.on < i
  read : ∀ i o, pre[i]? = some o → ∀ t ∈ looks ops o, ∀ j q, pre[j]? = some q → q.dst = some t → j = i ∨ (j < i ∧ (A.getD i 0).testBit j = true) ∨ (i < j ∧ (A.getD j 0).testBit i = true)
  nodup : (dstsL pre).Nodup
  chain : ∀ i j o p, pre[i]? = some o → pre[j]? = some p → isMk o = true → isMk p = true → i < j → (A.getD j 0).testBit i = true
theorem draws_of {ops : List Oper} (h : drawOk ops = true) : Draws ops (ops.take (drawCut ops)) (ancs ops []) := by
  simp only [drawOk, Bool.and_eq_true] at h
  obtain ⟨⟨h1, h2⟩, h3, h4⟩ := h
  refine ⟨fun i o hi j hj => ?_, fun i o hi e he hb => ?_, fun i o hi t ht j q hj hq => ?_, nodupN_spec h3, fun i j o p hi hj ho hp hij => ?_⟩
  rotate_right
  · have := zip_all h4 hj
    rw [hp] at this
    simp only [Bool.not_true, Bool.false_or] at this
    have := zip_all this hi
    rw [ho] at this
    have hb : Nat.blt i j = true := by simpa [Nat.blt_eq] using hij
    simpa [hb] using this
  · have := zip_all h1 hi
    simp only [Bool.and_eq_true] at this
    rw [beq_id this.1] at hj
    unfold ancOf at hj
    rcases fold_bit _ _ hj with h | ⟨e, he, hb⟩
    · simp at h
    · exact ⟨e, by simpa using he, hb⟩
  · have := zip_all h1 hi
    simp only [Bool.and_eq_true] at this
    have := List.all_eq_true.1 this.2 e (by simpa using he)
    simp only [hb, Bool.not_true, Bool.false_or] at this
    simpa [Nat.blt_eq] using this
  · have := List.all_eq_true.1 (zip_all h2 hi) t ht
    have := zip_all this hj
    simp only [hq, Bool.or_eq_true, Bool.not_eq_true'] at this
    rcases this with (h | h) | h
    · simp at h
    · exact .inl (beq_id h)
    · cases hb : Nat.blt j i with
      | true => rw [hb] at h; exact .inr (.inl ⟨by simpa [Nat.blt_eq] using hb, h⟩)
      | false =>
        rw [hb] at h
        rcases Nat.lt_trichotomy j i with hl | hl | hl
        · have : Nat.blt j i = true := by simpa [Nat.blt_eq] using hl
          rw [this] at hb; simp at hb
        · exact .inl hl
        · exact .inr (.inr ⟨hl, h⟩)
theorem cut_spec {A : List Nat} : ∀ (n : Nat), cutAt A n ≤ n ∧ ∀ i, cutAt A n ≤ i → i < n → ∀ j, j < i → (A.getD i 0).testBit j = true
  | 0 => ⟨Nat.le_refl _, fun i _ h => by omega⟩
  | n + 1 => by
    obtain ⟨h1, h2⟩ := cut_spec (A := A) n
    simp only [cutAt]
    cases hf : fullAt A n with
    | false => exact ⟨by simp, fun i hi hl => by simp at hi; omega⟩
    | true =>
      refine ⟨by simp; omega, fun i hi hl j hj => ?_⟩
      simp only [cond_true] at hi
      rcases Nat.lt_or_ge i n with h | h
      · exact h2 i hi h j hj
      · have : i = n := by omega
        subst this
        exact List.all_eq_true.1 hf j (by simpa using hj)

theorem count_lt {l : List Nat} {p q : Nat → Bool} {i : Nat} (hi : i ∈ l) (h1 : p i = false) (h2 : q i = true) (h3 : ∀ j ∈ l, p j = true → q j = true) : l.countP p < l.countP q := by
  induction l with
  | nil => cases hi
  | cons a l ih =>
    have hle : l.countP p ≤ l.countP q := List.countP_mono_left fun j hj hpj => h3 j (List.mem_cons_of_mem _ hj) hpj
    simp only [List.countP_cons]
    rcases List.mem_cons.1 hi with e | e
    · subst e; rw [h1, h2]; simp; omega
    · have := ih e fun j hj => h3 j (List.mem_cons_of_mem _ hj)
      have ha := h3 a (by simp)
      cases hpa : p a with
      | false => simp; split <;> omega
      | true => rw [ha hpa]; simp; omega
theorem calmH_ok {call : Handle} (hc : CallsOK Γ call) : CallsOK Γ (calmH call) := by
  intro g args obs r obs' h
  unfold calmH at h
  cases obs with
  | cons _ _ => simp [lNil] at h
  | nil =>
    simp only [lNil] at h
    split at h
    · rename_i c0 r0 os h1
      cases os with
      | cons _ _ => simp [lNil] at h
      | nil =>
        simp only [lNil] at h
        cases h
        exact hc g args [] _ _ h1
    · exact absurd h (by simp)

/-- what is listed leads to nothing that is not -/
def Closed (ops : List Oper) (listed : Array Bool) : Prop := ∀ i o, ops[i]? = some o → listed.getD i false = true → ∀ e ∈ o.after, Region.binds .any e = true → listed.getD e.on false = true
theorem anc_listed {ops pre : List Oper} {A : List Nat} (hD : Draws ops pre A) {listed : Array Bool} (hcl : Closed ops listed) : ∀ (i : Nat) (o : Oper), ops[i]? = some o → (∀ e ∈ o.after, Region.binds .any e = true → listed.getD e.on false = true) →
    ∀ j, (A.getD i 0).testBit j = true → listed.getD j false = true := by
  intro i
  induction i using Nat.strongRecOn with
  | _ i ih =>
    intro o ho hall j hj
    obtain ⟨e, he, hb, h⟩ := hD.anc i o ho j hj
    have hl := hall e he hb
    rcases h with rfl | h
    · exact hl
    · have hlt := hD.back i o ho e he hb
      have hil : i < ops.length := (List.getElem?_eq_some_iff.1 ho).1
      obtain ⟨p, hp⟩ : ∃ p, ops[e.on]? = some p := ⟨_, List.getElem?_eq_getElem (by omega)⟩
      exact ih e.on hlt p hp (fun e' he' hb' => hcl e.on p hp hl e' he' hb') j h

/-- temporaries, with some of the operations done -/
structure Part (Γ : Ctx) (ops : List Oper) (ob : Objs) (E0 : Nat → AV) (avs : Nat → AV) (w : World) (S : Addr → Prop) (σ : Loc) (listed : Array Bool) (a : Act) : Prop where
  done : ∀ j o t, ops[j]? = some o → o.dst = some t → listed.getD j false = true → RepA Γ.P w S σ ob (avs j) (a.tmps.getD t undef)
  rest : ∀ t, (∀ j o, ops[j]? = some o → o.dst = some t → listed.getD j false = false) → RepA Γ.P w S σ ob (E0 t) (a.tmps.getD t undef)

theorem unl {ops : Array Oper} {listed : Array Bool} (hsz : listed.size = ops.size) {i : Nat} (hi : i < ops.size) : listed.getD i true = listed.getD i false := by
  rw [Array.getD_eq_getD_getElem?, Array.getD_eq_getD_getElem?, Array.getElem?_eq_getElem (by omega)]; rfl
theorem set_get {ops : Array Oper} {listed : Array Bool} (hsz : listed.size = ops.size) {i : Nat} (hi : i < ops.size) (j : Nat) : (listed.setIfInBounds i true).getD j false = if j = i then true else listed.getD j false := by
  by_cases hji : j = i
  · subst hji
    rw [if_pos rfl, Array.getD_eq_getD_getElem?, Array.getElem?_setIfInBounds_self_of_lt (by omega)]; rfl
  · rw [if_neg hji, getD_set_ne _ (fun e => hji e.symm)]
theorem closed_set {ops : Array Oper} {listed : Array Bool} (hsz : listed.size = ops.size) (hcl : Closed ops.toList listed) {i : Nat} {o : Oper} (hoL : ops.toList[i]? = some o) (hil : i < ops.size)
    (hedges : ∀ e ∈ o.after, Region.binds .any e = true → listed.getD e.on false = true) : Closed ops.toList (listed.setIfInBounds i true) := by
  intro j q hj hlj e he hb
  rw [set_get hsz hil]
  rw [set_get hsz hil] at hlj
  by_cases hji : j = i
  · subst hji
    rw [hoL] at hj; cases hj
    have := hedges e he hb
    by_cases hei : e.on = j
    · rw [if_pos hei]
    · rw [if_neg hei]; exact this
  · rw [if_neg hji] at hlj
    have := hcl j q hj hlj e he hb
    by_cases hei : e.on = i
    · rw [if_pos hei]
    · rw [if_neg hei]; exact this

/-- the rest of a region, of which each operation stands behind all ahead of it -/
theorem seq_ok (hP : tabOk Γ.P = true) (hZ : zeroOk Γ.P = true) {call : Handle} (hc : CallsOK Γ call) {f : FuncId} {n : Nat} {ops : Array Oper} {pre : List Oper} {A : List Nat} (hD : Draws ops.toList pre A) {K : St → Option R} {r : R} {Q : Exit → Act → World → Prop}
    (hQ : ∀ st a w S σ, K st = some r → StOK Γ w0 S0 X n st a w S σ → Q .normal a w) (hd : ∀ o ∈ ops.toList, ∀ d, o.dst = some d → d < n) :
    ∀ (l : List Oper) (k : Nat), k ≤ ops.size → ops.toList.drop k = l → (∀ i, k ≤ i → i < ops.size → ∀ j, j < i → (A.getD i 0).testBit j = true) → ∀ (fuel : Nat) (listed : Array Bool) (st : St) (a : Act) (w : World) (S : Addr → Prop) (σ : Loc), listed.size = ops.size → Closed ops.toList listed →
      (∀ j, j < k → listed.getD j false = true) → (∀ j, k ≤ j → j < ops.size → listed.getD j false = false) → l.length ≤ fuel → StOK Γ w0 S0 X n st a w S σ → stepOps Γ call f ops.toList l st K = some r → wpAny Γ.P .any ops Q fuel listed a w
  | [], k, hkl, hl, hfull, fuel, listed, st, a, w, S, σ, hsz, hcl, hdone, hnot, hfuel, h, hs => by
    have hk : ops.size ≤ k := by have := List.drop_eq_nil_iff.1 hl; simpa using this
    simp only [stepOps] at hs
    have hr : Region.ready .any ops listed = [] := by
      cases hr : Region.ready .any ops listed with
      | nil => rfl
      | cons i x =>
        have hi : i ∈ Region.ready .any ops listed := by rw [hr]; simp
        obtain ⟨h1, o, ho, _⟩ := mem_ready.1 hi
        have hil : i < ops.size := (Array.getElem?_eq_some_iff.1 ho).1
        rw [unl hsz hil, hdone i (by omega)] at h1
        simp at h1
    exact wpAny_done hr (hQ _ _ _ _ _ hs h) fuel
  | o :: l, k, hkl, hl, hfull, 0, listed, st, a, w, S, σ, hsz, hcl, hdone, hnot, hfuel, h, hs => by simp at hfuel
  | o :: l, k, hkl, hl, hfull, fuel + 1, listed, st, a, w, S, σ, hsz, hcl, hdone, hnot, hfuel, h, hs => by
    have hoL : ops.toList[k]? = some o := by
      have := congrArg (·[0]?) hl
      simpa using this
    have hil : k < ops.size := by have := (List.getElem?_eq_some_iff.1 hoL).1; simpa using this
    have ho : ops[k]? = some o := by simpa using hoL
    have hl2 : ops.toList.drop (k + 1) = l := by rw [← List.drop_drop, hl]; rfl
    have hedges : ∀ e ∈ o.after, Region.binds .any e = true → listed.getD e.on false = true := fun e he hb => hdone e.on (hD.back k o hoL e he hb)
    have hkr : k ∈ Region.ready .any ops listed := mem_ready.2 ⟨by rw [unl hsz hil]; exact hnot k (Nat.le_refl _) hil, o, ho, hedges⟩
    refine ⟨fun hr => by (rw [hr] at hkr; cases hkr), fun i hi => ?_⟩
    obtain ⟨h1, q, hq, he⟩ := mem_ready.1 hi
    have hil' : i < ops.size := (Array.getElem?_eq_some_iff.1 hq).1
    rw [unl hsz hil'] at h1
    have hik : i = k := by
      rcases Nat.lt_trichotomy i k with hlt | rfl | hgt
      · rw [hdone i hlt] at h1; simp at h1
      · rfl
      · have := anc_listed hD hcl i q (by simpa using hq) he k (hfull i (by omega) hil' k hgt)
        rw [hnot k (Nat.le_refl _) hil] at this
        simp at this
    subst hik
    have hdo : ∀ d, o.dst = some d → d < n := hd o (List.mem_of_getElem? hoL)
    have next : ∀ (st' : St) (a' : Act) (w' : World) (S' : Addr → Prop) (σ' : Loc), StOK Γ w0 S0 X n st' a' w' S' σ' → stepOps Γ call f ops.toList l st' K = some r → wpAny Γ.P .any ops Q fuel (listed.setIfInBounds i true) a' w' := by
      intro st' a' w' S' σ' hst hs'
      refine seq_ok hP hZ hc hD hQ hd l (i + 1) hil hl2 (fun j hj => hfull j (by omega)) fuel _ st' a' w' S' σ' (by simpa using hsz) (closed_set hsz hcl hoL hil hedges) (fun j hj => ?_) (fun j hj hjl => ?_) (by simp at hfuel; omega) hst hs'
      · rw [set_get hsz hil]
        by_cases hji : j = i
        · rw [if_pos hji]
        · rw [if_neg hji]; exact hdone j (by omega)
      · rw [set_get hsz hil, if_neg (by omega)]; exact hnot j (by omega) hjl
    simp only [stepOps] at hs
    obtain ⟨b, tm, hs, hw, h'⟩ := guard_ok h hs
    unfold wpOp
    rw [ho]
    simp only [hw]
    rcases cond_cases hs with ⟨rfl, hs2⟩ | ⟨rfl, hs2⟩
    · simp only [if_true]
      exact .inl (oper_ok hP hZ hc h' hdo hs2 fun av ob' a' w' S' σ' hK hst => next _ a' w' S' σ' hst hK)
    · simp only [Bool.false_eq_true, if_false]
      exact next _ _ w S σ (h'.put (Trans.refl h'.mem) skip_rep hdo) hs2

theorem drawn_ok (hP : tabOk Γ.P = true) (hZ : zeroOk Γ.P = true) {call : Handle} (hc : CallsOK Γ call) {f : FuncId} {n : Nat} {ops : Array Oper} {K : St → Option R} {r : R} {Q : Exit → Act → World → Prop}
    (hQ : ∀ st a w S σ, K st = some r → StOK Γ w0 S0 X n st a w S σ → Q .normal a w) (hd : ∀ o ∈ ops.toList, ∀ d, o.dst = some d → d < n) (hcheck : drawOk ops.toList = true)
    {st : St} {a : Act} {w : World} {S : Addr → Prop} {σ : Loc} (h : StOK Γ w0 S0 X n st a w S σ) (hs : stepOpsD Γ call f ((ops.toList.take (drawCut ops.toList)).any isMk) ops.toList (ops.toList.take (drawCut ops.toList)) [] st (fun st1 => stepOps Γ call f ops.toList (ops.toList.drop (drawCut ops.toList)) st1 K) = some r) :
    wpAny Γ.P .any ops Q ops.size (Array.replicate ops.size false) a w := by
  obtain ⟨tm, ob⟩ := st
  have hD := draws_of hcheck
  obtain ⟨hkl, hfull⟩ := cut_spec (A := ancs ops.toList []) ops.toList.length
  have hkc : drawCut ops.toList = cutAt (ancs ops.toList []) ops.toList.length := rfl
  rw [← hkc] at hkl hfull
  generalize hA : ancs ops.toList [] = A at hD hfull
  generalize drawCut ops.toList = k at *
  generalize hpre : ops.toList.take k = pre at *
  generalize (pre.any isMk) = al at hs
  obtain ⟨avs, Es, Ts, tm', hE0, hT0, hgood, hK, hfin⟩ := plan_of pre [] tm hs
  have hes := fun t i hi => es_spec hD.nodup (fun i o ho => (hgood i o ho).2) t i hi
  have hlen : ops.toList.length = ops.size := by simp
  have hplen : pre.length = k := by rw [← hpre]; simp at hkl ⊢; omega
  have hpo : ∀ {i : Nat} {o : Oper}, pre[i]? = some o → ops.toList[i]? = some o ∧ i < k := fun {i o} hi => by
    have hik : i < k := by rw [← hplen]; exact (List.getElem?_eq_some_iff.1 hi).1
    rw [← hpre, List.getElem?_take, if_pos hik] at hi
    exact ⟨hi, hik⟩
  have hop : ∀ {i : Nat} {o : Oper}, ops.toList[i]? = some o → i < k → pre[i]? = some o := fun {i o} hi hik => by
    rw [← hpre, List.getElem?_take, if_pos hik]; exact hi
  have hTs : ∀ i o, pre[i]? = some o → isMk o = false → Ts (i + 1) = Ts i := fun i o ho hm => by
    rcases (hgood i o ho).1 with ⟨h, _⟩ | ⟨_, h, _⟩
    · rw [hm] at h; cases h
    · exact h
  have hnil : al = false → ∀ c, c ≤ k → Ts c = [] := fun hal c hck => by
    rw [← hT0]
    refine same_T hTs 0 c (Nat.zero_le _) (by omega) fun i o _ _ ho => ?_
    rcases (hgood i o ho).1 with ⟨_, h, _⟩ | ⟨h, _⟩
    · rw [hal] at h; cases h
    · exact h
  -- what makes objects is done in order, up to somewhere
  let Thr : Array Bool → Nat → Prop := fun listed c => c ≤ k ∧ ∀ i o, pre[i]? = some o → isMk o = true → (listed.getD i false = true ↔ i < c)
  -- the general step
  have main : ∀ (fuel : Nat) (listed : Array Bool) (c : Nat) (a : Act) (w : World) (S : Addr → Prop) (σ : Loc), Thr listed c → listed.size = ops.size → Closed ops.toList listed → (∀ j, k ≤ j → j < ops.size → listed.getD j false = false) → Part Γ pre (ob ++ Ts c) (Es 0) avs w S σ listed a → MemOK Γ w0 S0 X w S σ (ob ++ Ts c) →
      n ≤ a.tmps.size → a.defers = [] → ((List.range ops.size).countP fun i => !listed.getD i true) ≤ fuel → wpAny Γ.P .any ops Q fuel listed a w := by
    have allDone : ∀ (fuel : Nat) (listed : Array Bool) (c : Nat) (a : Act) (w : World) (S : Addr → Prop) (σ : Loc), Thr listed c → listed.size = ops.size → Closed ops.toList listed → (∀ j, k ≤ j → j < ops.size → listed.getD j false = false) → Part Γ pre (ob ++ Ts c) (Es 0) avs w S σ listed a → MemOK Γ w0 S0 X w S σ (ob ++ Ts c) → n ≤ a.tmps.size → a.defers = [] →
        ((List.range ops.size).countP fun i => !listed.getD i true) ≤ fuel → (∀ i, i < k → listed.getD i false = true) → wpAny Γ.P .any ops Q fuel listed a w := by
      intro fuel listed c a w S σ hthr hsz hcl hnot hpart hM hn hdf hcount hall
      have hob : ob ++ Ts c = ob ++ Ts pre.length := by
        rw [same_T hTs c pre.length (by have := hthr.1; omega) (Nat.le_refl _) fun i o h1 h2 ho => by
          cases hm : isMk o with
          | false => rfl
          | true => have := (hthr.2 i o ho hm).1 (hall i (by omega)); omega]
      refine seq_ok hP hZ hc hD hQ hd (ops.toList.drop k) k (by omega) rfl (fun i hi hil j hj => hfull i hi (by omega) j hj) fuel listed ⟨tm', ob ++ Ts pre.length⟩ a w S σ hsz hcl hall hnot ?_ ⟨hob ▸ hM, fun t => ?_, hn, hdf⟩ hK
      · refine Nat.le_trans ?_ hcount
        have hsub : ((List.range ops.size).drop k).countP (fun i => !listed.getD i true) = ((List.range ops.size).drop k).length := by
          rw [List.countP_eq_length]
          intro j hj
          obtain ⟨m, hm⟩ := List.mem_iff_getElem?.1 hj
          rw [List.getElem?_drop] at hm
          obtain ⟨hm1, hm2⟩ := List.getElem?_eq_some_iff.1 hm
          simp at hm1 hm2
          subst hm2
          rw [unl hsz (by omega), hnot (k + m) (by omega) (by omega)]; rfl
        have : ((List.range ops.size).drop k).countP (fun i => !listed.getD i true) ≤ (List.range ops.size).countP fun i => !listed.getD i true := (List.drop_sublist k _).countP_le
        rw [hsub] at this
        simp at this ⊢
        omega
      · show RepA Γ.P w S σ (ob ++ Ts pre.length) (get tm' t) _
        rw [hfin, ← hob]
        obtain ⟨g1, g2⟩ := hes t _ (Nat.le_refl _)
        by_cases hex : ∃ (j : Nat) (o : Oper), pre[j]? = some o ∧ o.dst = some t
        · obtain ⟨j, o, hj, ho⟩ := hex
          have hjl : j < pre.length := (List.getElem?_eq_some_iff.1 hj).1
          rw [g1 j o hjl hj ho]
          exact hpart.done j o t hj ho (hall j (by omega))
        · rw [g2 fun j o _ hj ho => hex ⟨j, o, hj, ho⟩]
          exact hpart.rest t fun j o hj ho => absurd ⟨j, o, hj, ho⟩ hex
    intro fuel
    induction fuel with
    | zero =>
      intro listed c a w S σ hthr hsz hcl hnot hpart hM hn hdf hcount
      refine allDone 0 listed c a w S σ hthr hsz hcl hnot hpart hM hn hdf hcount fun i hi => ?_
      have := List.countP_eq_zero.1 (Nat.le_zero.1 hcount) i (by simp; omega)
      rw [unl hsz (by omega)] at this
      simpa using this
    | succ fuel ih =>
      intro listed c a w S σ hthr hsz hcl hnot hpart hM hn hdf hcount
      by_cases hallk : ∀ i, i < k → listed.getD i false = true
      · exact allDone _ listed c a w S σ hthr hsz hcl hnot hpart hM hn hdf hcount hallk
      refine ⟨fun hr => ?_, fun i hi => ?_⟩
      · exfalso
        apply hallk
        intro i
        induction i using Nat.strongRecOn with
        | _ i ih =>
          intro hi
          rcases hli : listed.getD i false with _ | _
          · exfalso
            obtain ⟨o, ho⟩ : ∃ o, ops[i]? = some o := ⟨_, Array.getElem?_eq_getElem (by omega)⟩
            have : i ∈ Region.ready .any ops listed := mem_ready.2 ⟨by rw [unl hsz (by omega)]; exact hli, o, ho, fun e he hb => by
              have hlt := hD.back i o (by simpa using ho) e he hb
              exact ih e.on hlt (by omega)⟩
            rw [hr] at this
            cases this
          · rfl
      obtain ⟨h1, o, ho, hedges⟩ := mem_ready.1 hi
      have hil : i < ops.size := (Array.getElem?_eq_some_iff.1 ho).1
      have hoT : ops.toList[i]? = some o := by simpa using ho
      have hif : listed.getD i false = false := by rw [← unl hsz hil]; exact h1
      have hik : i < k := by
        rcases Nat.lt_or_ge i k with hlt | hge
        · exact hlt
        · exfalso
          apply hallk
          intro j hj
          exact anc_listed hD hcl i o hoT hedges j (hfull i hge (by omega) j (by omega))
      have hoL : pre[i]? = some o := hop hoT hik
      have hil2 : i < ops.size := hil
      obtain ⟨b, c', hthr', hwant, hdoes, hundef⟩ : ∃ (b : Bool) (c' : Nat), Thr (listed.setIfInBounds i true) c' ∧ ((o.guard = none ∧ b = true) ∨ (∃ j want d x, o.guard = some (j, want) ∧ (ops.toList[j]?).bind (·.dst) = some d ∧ Es i d = .b x ∧ b = (want == x)) ∨ ∃ j want d, o.guard = some (j, want) ∧ (ops.toList[j]?).bind (·.dst) = some d ∧ Es i d = .tuple [] ∧ b = false) ∧
          (b = true → stepOp Γ (calmH call) f o (evoE Γ (Es i)) (ob ++ Ts c) (fun v ob' => some (v, ob')) = some (avs i, ob ++ Ts c')) ∧ (b = false → avs i = .tuple [] ∧ Ts c' = Ts c) := by
        rcases (hgood i o hoL).1 with ⟨hm, hal, hstep⟩ | ⟨hm, _, ⟨b, hwant, hdoes, hundef⟩⟩
        · have hci : c ≤ i := by
            rcases Nat.lt_or_ge i c with hlt | hge
            · have := (hthr.2 i o hoL hm).2 hlt
              rw [hif] at this; cases this
            · exact hge
          have hnone : ∀ j q, c ≤ j → j < i → pre[j]? = some q → isMk q = false := fun j q h1 h2 hq => by
            cases hmq : isMk q with
            | false => rfl
            | true =>
              have hl := anc_listed hD hcl i o hoT hedges j (hD.chain j i q o hq hoL hmq hm h2)
              have := (hthr.2 j q hq hmq).1 hl
              omega
          have hT : Ts c = Ts i := (same_T hTs c i hci (by omega) hnone).symm
          refine ⟨true, i + 1, ⟨hik, fun j q hq hmq => ?_⟩, .inl ⟨mk_guard hm, rfl⟩, fun _ => by rw [hT]; exact hstep _ _, fun h => by cases h⟩
          rw [set_get hsz hil]
          by_cases hji : j = i
          · rw [if_pos hji]; exact ⟨fun _ => by omega, fun _ => rfl⟩
          · rw [if_neg hji, hthr.2 j q hq hmq]
            refine ⟨fun h => by omega, fun h => ?_⟩
            rcases Nat.lt_or_ge j c with hlt | hge
            · exact hlt
            · have := hnone j q hge (by omega) hq
              rw [hmq] at this; cases this
        · refine ⟨b, c, ⟨hthr.1, fun j q hq hmq => ?_⟩, hwant, fun hb => ?_, fun hb => ⟨hundef hb, rfl⟩⟩
          · rw [set_get hsz hil]
            by_cases hji : j = i
            · subst hji
              rw [hoL] at hq; cases hq
              rw [hm] at hmq; cases hmq
            · rw [if_neg hji]; exact hthr.2 j q hq hmq
          · obtain ⟨d1, d2⟩ := hdoes hb
            cases hal : al with
            | true => exact d2 hal _ _ _
            | false =>
              rw [hnil hal c hthr.1, List.append_nil]
              exact d1 _ _
      -- what it looks at
      have hlook : ∀ t ∈ looks ops.toList o, RepA Γ.P w S σ (ob ++ Ts c) (Es i t) (a.tmps.getD t undef) := by
        intro t ht
        obtain ⟨g1, g2⟩ := hes t i (by omega)
        by_cases hex : ∃ (j : Nat) (q : Oper), j < i ∧ pre[j]? = some q ∧ q.dst = some t
        · obtain ⟨j, q, hji, hj, hq⟩ := hex
          rw [g1 j q hji hj hq]
          refine hpart.done j q t hj hq ?_
          rcases hD.read i o hoL t ht j q hj hq with h | h | h
          · omega
          · exact anc_listed hD hcl i o hoT hedges j h.2
          · omega
        · rw [g2 fun j q hji hj hq => hex ⟨j, q, hji, hj, hq⟩]
          refine hpart.rest t fun j q hj hq => ?_
          rcases hD.read i o hoL t ht j q hj hq with h | h | h
          · rw [h]; exact hif
          · exact absurd ⟨j, q, h.1, hj, hq⟩ hex
          · cases hlj : listed.getD j false with
            | false => rfl
            | true =>
              have := anc_listed hD hcl j q (hpo hj).1 (fun e he hb => hcl j q (hpo hj).1 hlj e he hb) i h.2
              rw [hif] at this
              simp at this
      have hwanted : Region.wanted o (yielded ops a.tmps) = b := by
        rcases hwant with ⟨hg, rfl⟩ | ⟨j, want, d, x, hg, hdst, hx, rfl⟩ | ⟨j, want, d, hg, hdst, hx, rfl⟩
        · simp [Region.wanted, hg]
        · have htm := hlook d (by
            unfold looks
            refine List.mem_append_right _ ?_
            rw [hg]; simp only [hdst]; simp)
          rw [hx] at htm
          simp only [RepA] at htm
          have hdz : d < a.tmps.size := by
            rcases Nat.lt_or_ge d a.tmps.size with hlt | hge
            · exact hlt
            · rw [Array.getD_eq_getD_getElem?, Array.getElem?_eq_none hge] at htm; simp [undef] at htm
          have hy : yielded ops a.tmps j = some x := by
            unfold yielded
            have : (ops[j]?).bind (·.dst) = some d := by simpa using hdst
            rw [this]
            simp only [Option.bind_some]
            rw [Array.getElem?_eq_getElem hdz]
            rw [Array.getD_eq_getD_getElem?, Array.getElem?_eq_getElem hdz] at htm
            simp only [Option.getD_some] at htm
            rw [htm]
          cases x <;> cases want <;> simp [Region.wanted, hg, hy]
        · have htm := hlook d (by
            unfold looks
            refine List.mem_append_right _ ?_
            rw [hg]; simp only [hdst]; simp)
          rw [hx] at htm
          have hy : yielded ops a.tmps j = none := yielded_skip hdst htm
          simp [Region.wanted, hg, hy]
      have hdi : ∀ d, o.dst = some d → d < a.tmps.size := fun d hod => Nat.lt_of_lt_of_le (hd o (List.mem_of_getElem? hoT) d hod) hn
      -- behind it
      have go : ∀ (v : Value) (w' : World) (S' : Addr → Prop) (σ' : Loc), Trans Γ w0 S0 X w S σ (ob ++ Ts c) w' S' σ' (ob ++ Ts c') → RepA Γ.P w' S' σ' (ob ++ Ts c') (avs i) v → wpAny Γ.P .any ops Q fuel (listed.setIfInBounds i true) (a.put o.dst v) w' := by
        intro v w' S' σ' ht hv
        have hgs := fun j => set_get hsz hil (j := j)
        refine ih _ c' _ w' S' σ' hthr' (by simpa using hsz) (closed_set hsz hcl hoT hil hedges) (fun j hj hjl => by rw [hgs, if_neg (by omega)]; exact hnot j hj hjl) ?_ ht.1 ?_ ?_ ?_
        · refine ⟨fun j q t hj hq hlj => ?_, fun t hno => ?_⟩
          · rw [getD_put a o.dst v t hdi]
            rw [hgs] at hlj
            by_cases hji : j = i
            · subst hji
              rw [hoL] at hj; cases hj
              rw [if_pos hq]; exact hv
            · rw [if_neg hji] at hlj
              rw [if_neg fun hod => hji (nodup_get hD.nodup hj hoL hq hod)]
              exact ht.2 _ _ (hpart.done j q t hj hq hlj)
          · rw [getD_put a o.dst v t hdi]
            rw [if_neg fun hod => by
              have := hno i o hoL hod
              rw [hgs, if_pos rfl] at this
              simp at this]
            refine ht.2 _ _ (hpart.rest t fun j q hj hq => ?_)
            have := hno j q hj hq
            rw [hgs] at this
            by_cases hji : j = i
            · rw [if_pos hji] at this; simp at this
            · rw [if_neg hji] at this; exact this
        · cases o.dst <;> simp [Act.put, hn]
        · cases o.dst <;> simp [Act.put, hdf]
        · have hlt : ((List.range ops.size).countP fun j => !(listed.setIfInBounds i true).getD j true) < ((List.range ops.size).countP fun j => !listed.getD j true) := by
            refine count_lt (i := i) (by simpa using hil) ?_ ?_ ?_
            · rw [unl (by simpa using hsz) hil, hgs, if_pos rfl]; rfl
            · rw [unl hsz hil, hif]; rfl
            · intro j hj hjt
              have hjl : j < ops.size := by simpa using hj
              rw [unl (by simpa using hsz) hjl, hgs] at hjt
              rw [unl hsz hjl]
              by_cases hji : j = i
              · rw [if_pos hji] at hjt; simp at hjt
              · rw [if_neg hji] at hjt; exact hjt
          omega
      unfold wpOp
      rw [ho]
      simp only [hwanted]
      cases b with
      | false =>
        simp only [Bool.false_eq_true, if_false]
        obtain ⟨hu1, hu2⟩ := hundef rfl
        refine go undef w S σ (by rw [hu2]; exact Trans.refl hM) ?_
        rw [hu1]; exact skip_rep
      | true =>
        simp only [if_true]
        refine .inl ?_
        have hstep := hdoes rfl
        let ρ : Operand → AV := fun x => @ite _ (x ∈ o.op.operands) (Classical.propDecidable _) (evoE Γ (Es i) x) .undef
        have hρ : ∀ x, RepA Γ.P w S σ (ob ++ Ts c) (ρ x) (a.eval x) := by
          intro x
          by_cases hx : x ∈ o.op.operands
          · have : ρ x = evoE Γ (Es i) x := if_pos hx
            rw [this]
            cases x with
            | tmp t => exact hlook t (List.mem_append_left _ (List.mem_filterMap.2 ⟨.tmp t, by simpa using hx, rfl⟩))
            | const v => exact ofConst_ok v
            | global g =>
              simp only [evoE, Act.eval]
              cases hg : Γ.G g with
              | none => simp only [RepA]
              | some p =>
                obtain ⟨t, x⟩ := p
                obtain ⟨vs, h1, h2⟩ := hM.glob.data g t x hg
                simp only [RepA]
                exact ⟨g, 0, vs, rfl, h1, h2.1⟩
            | func f =>
              simp only [evoE, Act.eval, RepA]
              exact ⟨[], rfl, by simp only [RepAs]⟩
          · have : ρ x = .undef := if_neg hx
            rw [this]; simp only [RepA]
        rw [stepOp_congr (ρ' := ρ) fun x hx => (if_pos hx).symm] at hstep
        obtain ⟨av', ob', h1, hg⟩ := stepOp_ok hP hZ hM (calmH_ok hc) hρ rfl hstep
        cases h1
        unfold Oper.wp
        unfold OpGood at hg
        exact upon_of hg fun v w' ⟨S', σ', ht, hv⟩ => go v w' S' σ' ht hv
  have hrep : ∀ j, (Array.replicate ops.size false).getD j false = false := fun j => by
    rw [Array.getD_eq_getD_getElem?, Array.getElem?_replicate]; split <;> rfl
  have hob0 : ob ++ Ts 0 = ob := by rw [hT0, List.append_nil]
  refine main ops.size _ 0 a w S σ ⟨Nat.zero_le _, fun i o _ _ => ⟨fun h => (by rw [hrep] at h; cases h), fun h => (by omega)⟩⟩ (by simp) ?_ (fun j _ _ => hrep j) ?_ (by rw [hob0]; exact h.mem) h.size h.defers ?_
  · intro i o hi hl
    rw [hrep] at hl; simp at hl
  · refine ⟨fun j o t hj ho hl => ?_, fun t _ => ?_⟩
    · rw [hrep] at hl; simp at hl
    · rw [hE0, hob0]; exact h.tm t
  · exact Nat.le_trans List.countP_le_length (by simp)
/-- rows that are not written any more: nothing is done -/
theorem frzT_ok (hP : tabOk Γ.P = true) {n : Nat} : ∀ (ts : List Nat) {st : St} {a : Act} {w : World} {S : Addr → Prop} {σ : Loc}, StOK Γ w0 S0 X n st a w S σ → ∃ S', StOK Γ w0 S0 X n (frzT ts st) a w S' σ
  | [], st, a, w, S, σ, h => ⟨S, h⟩
  | t :: r, st, a, w, S, σ, h => by
    simp only [frzT]
    cases hf : frz (get st.tm t) st.ob with
    | mk v ob' =>
      obtain ⟨S1, t1, hv⟩ := frz_ok hP h.mem hf (h.tm t)
      refine frzT_ok hP r (S := S1) ⟨t1.1, fun t' => ?_, h.size, h.defers⟩
      show RepA Γ.P w S1 σ ob' (get (V.put (some t) v st.tm) t') _
      rw [get_put]
      by_cases ht : some t = some t'
      · rw [if_pos ht]; cases ht; exact hv
      · rw [if_neg ht]; exact t1.2 _ _ (h.tm t')
end
end Go.Proofs.YtjbemleloffafaaDoor.V
