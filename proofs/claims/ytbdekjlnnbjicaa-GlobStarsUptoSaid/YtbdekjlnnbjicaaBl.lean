/- GlA, FrAJ, GlB, GlC, GlP: texts of this claim, put together in build order by program. -/
import Derived.Test.YtbdekjlnnbjicaaBk
import Derived.Test.YtbdekjlnnbjicaaProg
/- The program of the law's seat, as the machine over values takes it. Definitions and closed facts of the program. -/
namespace Go.Proofs.Ytbdekjlnnbjicaa.V
open Go
set_option maxRecDepth 100000
set_option linter.unusedVariables false
def live : List (FuncId × Nat × List Nat) := [(5, 6, [0, 1, 2, 7, 8, 9, 10]), (9, 6, [1, 6, 8, 9, 10, 11]), (9, 16, [6, 8]), (10, 7, [1, 6, 8, 9]), (10, 11, [1, 6, 8, 9, 10, 11]), (14, 4, [5, 6, 14, 15, 16]), (15, 6, [6, 16, 17, 18]), (16, 6, [4, 6, 7]), (17, 4, [4, 5, 6, 7]), (18, 3, [0, 3, 4]), (19, 5, [0, 4, 5]), (21, 5, [0, 4, 5]), (28, 6, [3, 4, 5]), (28, 15, [3, 6, 61]), (28, 20, [3, 6, 8]), (28, 28, [3, 11, 12]), (90, 5, [0, 1, 5, 6, 30, 31, 32]), (90, 13, [0, 1, 5, 6, 10]), (90, 24, [0, 1, 12, 13, 14]), (92, 6, [0, 1, 5])]
def own : List (FuncId × Nat) := [(90, 105)]
def roots : List (FuncId × Nat) := [(23, 1), (24, 1), (25, 1), (26, 1), (27, 1), (28, 1), (29, 1), (30, 1), (31, 1), (32, 1), (35, 1), (36, 1), (37, 1), (42, 1), (44, 1), (46, 1), (47, 1), (90, 1)]
def pre : List (FuncId × Nat × List Nat) := []
def outs : List FuncId := []
def frzs : List FuncId := []
def lks : List (FuncId × Nat) := [(32, 0)]
def globs : Nat → Option (TypeId × D) := fun _ => none
def meths : List (TypeId × String × FuncId) := [(83, "Replace", 90)]
theorem meth83 : methOf Try.prog 83 "Replace" = some 90 := by kernel_rfl
theorem mOk : ∀ m ∈ meths, ∀ (w : World) (a : Addr), (method (Try.prog.types.size + Made.depth) m.1 (.pointer (some a)) m.2.1).run Try.prog w = .ok (m.2.2, .pointer (some a)) w := by
  intro m h w a
  rcases List.mem_cons.1 h with rfl | h
  · exact meth_ptr meth83 w a
  · cases h
noncomputable def Γ : Ctx := { P := Try.prog, live := live, G := globs, own := own, roots := roots, pre := pre, outs := outs, frzs := frzs, lks := lks, meths := meths, methsOk := mOk }
theorem hP : tabOk Γ.P = true := by kernel_rfl
theorem hZ : zeroOk Γ.P = true := by kernel_rfl
theorem hN : (Γ.P.funcs.toList.all fun fn => !(fn.name == "runtime.NumGoroutine")) = true := by kernel_rfl
end Go.Proofs.Ytbdekjlnnbjicaa.V

/- A function that puts two calls off: its regions, the calls at its end. -/
namespace Go.Proofs.Ytbdekjlnnbjicaa.V
open Go
set_option linter.unusedVariables false
set_option linter.unusedSimpArgs false

section
variable {Γ : Ctx} {w0 : World} {S0 : Addr → Prop} {X : XB} {w w' : World} {S S' : Addr → Prop} {σ σ' : Loc} {ob ob' : Objs} {R : Type}

/-- some of a region's operations -/
theorem stepOpsP_ok (hP : tabOk Γ.P = true) (hZ : zeroOk Γ.P = true) {call : Handle} (hc : CallsOK Γ call) {f : FuncId} {n m : Nat} {ops : Array Oper} (hm : m ≤ ops.size) {K : St → Option R} {r : R} {Q : Exit → Act → World → Prop}
    (hQ : ∀ st a w S σ, K st = some r → StOK Γ w0 S0 X n st a w S σ → wpOps Γ.P ops Q ((List.range ops.size).drop m) a w) (hd : ∀ o ∈ ops.toList, ∀ d, o.dst = some d → d < n) :
    ∀ (l : List Oper) (k : Nat), k ≤ m → (ops.toList.take m).drop k = l → ∀ (st : St) (a : Act) (w : World) (S : Addr → Prop) (σ : Loc), StOK Γ w0 S0 X n st a w S σ → stepOps Γ call f ops.toList l st K = some r →
      wpOps Γ.P ops Q ((List.range ops.size).drop k) a w
  | [], k, hkm, hl, st, a, w, S, σ, h, hs => by
    have : m ≤ k := by have := List.drop_eq_nil_iff.1 hl; simp at this; omega
    have : k = m := by omega
    subst this
    simp only [stepOps] at hs
    exact hQ _ _ _ _ _ hs h
  | o :: l, k, hkm, hl, st, a, w, S, σ, h, hs => by
    have hk' : (ops.toList.take m)[k]? = some o := by
      have := congrArg (·[0]?) hl
      simpa using this
    have hkl := getL hk'
    have hk : ops.toList[k]? = some o := by
      rw [List.getElem?_take] at hk'
      split at hk'
      · exact hk'
      · cases hk'
    have hkm : k < m := by simp at hkl; omega
    have hok : ops[k]? = some o := by simpa using hk
    have hl2 : (ops.toList.take m).drop (k + 1) = l := by
      rw [← List.drop_drop, hl]; rfl
    rw [List.drop_eq_getElem_cons (by simp; omega), List.getElem_range]
    have hdo : ∀ d, o.dst = some d → d < n := hd o (List.mem_of_getElem? hk)
    simp only [stepOps] at hs
    obtain ⟨b, tm, hs, hw, h'⟩ := guard_ok h hs
    simp only [wpOps, hok, hw]
    rcases cond_cases hs with ⟨rfl, hs2⟩ | ⟨rfl, hs2⟩
    · simp only [if_true]
      refine .inl (oper_ok hP hZ hc h' hdo hs2 fun av ob' a' w' S' σ' hK hst => ?_)
      exact stepOpsP_ok hP hZ hc hm hQ hd l (k + 1) (by omega) hl2 _ a' w' S' σ' hst hK
    · simp only [Bool.false_eq_true, if_false]
      exact stepOpsP_ok hP hZ hc hm hQ hd l (k + 1) (by omega) hl2 _ _ w S σ (h'.put (Trans.refl h'.mem) skip_rep hdo) hs2
theorem region_wp (hP : tabOk Γ.P = true) (hZ : zeroOk Γ.P = true) {call : Handle} (hc : CallsOK Γ call) {f : FuncId} {n id : Nat} {ops : Array Oper} {K : St → Option R} {r : R} {Q : Exit → Act → World → Prop} {st : St} {a : Act}
    (hd : ∀ o ∈ ops.toList, ∀ d, o.dst = some d → d < n) (h : StOK Γ w0 S0 X n st a w S σ) (hs : stepOps Γ call f ops.toList ops.toList st K = some r)
    (hQ : ∀ st' a' w' S' σ', K st' = some r → StOK Γ w0 S0 X n st' a' w' S' σ' → Q .normal a' w') : (Code.region id ops false).wp Γ.P Q a w :=
  wp_region (by simpa using stepOps_ok hP hZ hc hQ hd ops.toList 0 rfl st a w S σ h hs)
theorem defer_wp (hP : tabOk Γ.P = true) (hZ : zeroOk Γ.P = true) {call : Handle} (hc : CallsOK Γ call) {f : FuncId} {n id m : Nat} {ops : Array Oper} {o : Oper} {c : Call} {g : FuncId} (hm : ops.size = m + 1) (ho : ops[m]? = some o) (hop : o.op = .defer c)
    (hcal : c.callee = .value (.func g)) (hdst : o.dst = none) (hg : o.guard = none) {K : St → Option R} {r : R} {Q : Exit → Act → World → Prop} {st : St} {a : Act}
    (hd : ∀ o ∈ ops.toList, ∀ d, o.dst = some d → d < n) (h : StOK Γ w0 S0 X n st a w S σ) (hs : stepOps Γ call f ops.toList (ops.toList.take m) st K = some r)
    (hQ : ∀ st' a' w' S' σ', K st' = some r → StOK Γ w0 S0 X n st' a' w' S' σ' → Q .normal { a' with defers := ⟨.fn (.func g) #[], c.args.map a'.eval⟩ :: a'.defers } w') : (Code.region id ops false).wp Γ.P Q a w := by
  refine wp_region ?_
  have := stepOpsP_ok (m := m) (Q := Q) hP hZ hc (by omega) (fun st' a' w' S' σ' hK hst => ?_) hd (ops.toList.take m) 0 (Nat.zero_le _) rfl st a w S σ h hs
  · simpa using this
  · have hr : (List.range ops.size).drop m = [m] := by
      rw [hm, List.range_succ, List.drop_append_of_le_length (by simp), List.drop_eq_nil_of_le (by simp)]
      rfl
    rw [hr]
    have hw : Region.wanted o (yielded ops a'.tmps) = true := by simp [Region.wanted, hg]
    simp only [wpOps, ho, hw, if_true]
    left
    unfold Oper.wp
    have hrun : (execOp a'.eval o).run Γ.P w' = .ok (.defer ⟨.fn (.func g) #[], c.args.map a'.eval⟩) w' := by
      obtain ⟨dst, op, type, pos, after, guard⟩ := o
      simp only at hop hdst hg
      subst hop
      simp [execOp, resolve, hcal, Deferred.ofValue, Act.eval]
    rw [hrun, Oper.upon_defer, hdst]
    exact hQ st' a' w' S' σ' hK hst
theorem StOK.off {n : Nat} {st : St} {a : Act} (h : StOK Γ w0 S0 X n st a w S σ) (d : Deferred) : StOK Γ w0 S0 ⟨X.roots, X.own, d :: X.dfs⟩ n st { a with defers := d :: a.defers } w S σ :=
  ⟨h.mem.dfs, h.tm, h.size, by simp [h.defers]⟩
/-- the first object stays where it lay -/
theorem root_ptr {X2 : XB} {w2 : World} {S2 : Addr → Prop} {σ2 : Loc} {ob2 : Objs} (hr : X2.roots = X.roots) (h0 : X.roots.length = 1) (h1 : MemOK Γ w0 S0 X w S σ ob) (h2 : MemOK Γ w0 S0 X2 w2 S2 σ2 ob2) {t t2 : TypeId} {c c2 : AV} (ht : t2 = t)
    (hb : ob[0]? = some (some (.box t c))) (hb2 : ob2[0]? = some (some (.box t2 c2))) {p : List Nat} {u : TypeId} {v : Value} (hv : RepA Γ.P w S σ ob (.ptr 0 p u) v) : RepA Γ.P w2 S2 σ2 ob2 (.ptr 0 p u) v := by
  subst ht
  obtain ⟨q, hq⟩ : ∃ q, X.roots[0]? = some q := ⟨X.roots[0], List.getElem?_eq_getElem (by omega)⟩
  have e1 := (h1.root 0 q hq).2
  have e2 := (h2.root 0 q (by rw [hr]; exact hq)).2
  simp only [RepA] at hv ⊢
  obtain ⟨_, b, off, rfl, hv⟩ := hv
  obtain ⟨hb1, ho⟩ := hv _ _ hb
  refine ⟨(List.getElem?_eq_some_iff.1 hb2).1, b, off, rfl, fun tj c' h => ?_⟩
  rw [hb2] at h
  cases h
  exact ⟨by rw [e2, ← e1]; exact hb1, ho⟩
/-- a call that was put off -/
def CallsOKD (Γ : Ctx) (call : Handle) : Prop := ∀ g args obs r obs', call g args obs = some (true, r, obs') → RetXD Γ g args obs r obs'
theorem call1_okD (hP : tabOk Γ.P = true) (hM : MemOK Γ w0 S0 X w S σ ob) {call : Handle} (hc : CallsOKD Γ call) {t : TypeId} {f : FuncId} {all : List AV} {vals : List Value} {K : AV → Objs → Option R} {r : R}
    (has : RepAs Γ.P w S σ ob all vals) (h : opCall1 Γ call t f all ob K = some r) (u : FrameMode) :
    ∃ av ob', K av ob' = some r ∧ CallsD Γ.P f vals.toArray u w fun e u' w' => u' = u ∧ ∃ v, e = .returned v ∧ ∃ S' σ', Trans Γ w0 S0 X w S σ ob w' S' σ' ob' := by
  unfold opCall1 at h
  cases hfz : frzC (memF f Γ.refs) all ob with
  | mk args ob1 =>
    rw [hfz] at h
    simp only at h
    generalize hrts : nubN (idsL args) = rts at h
    generalize hord : reach ob1 400 (idsOb ob1 rts) rts = ord at h
    obtain ⟨hcl, h⟩ := cond_some h
    simp only [Bool.and_eq_true] at hcl
    obtain ⟨hcl, hn⟩ := hcl
    have hn := beq_id hn
    obtain ⟨hnd, hin, hob⟩ := clsd_spec hcl
    obtain ⟨S1, t1, ha1⟩ := frzC_ok hP hM hfz has
    cases hcall : call f (renL (fun j => posN j ord) args) (ord.map fun j => renO (fun j => posN j ord) (ob1.getD j none)) with
    | none => rw [hcall] at h; exact absurd h (by simp)
    | some p =>
      obtain ⟨c, rv, obs⟩ := p
      rw [hcall] at h
      simp only at h
      obtain ⟨hsame, h9⟩ := cond_some h
      clear h
      simp only [Bool.and_eq_true] at hsame
      obtain ⟨hsame, rfl⟩ := hsame
      obtain ⟨av, hK, hopen⟩ := openR_ok h9
      have hpre : ∃ r, ord = rts ++ r := by rw [← hord]; exact reach_pre 400 _ _
      obtain ⟨hsub, hmv⟩ := sub_ok t1.1 hnd hob hpre
      have hargs : RepAs Γ.P w S1 _ _ (renL (fun j => posN j ord) args) vals := RepAs.ren args vals (fun j hj => hmv j (hin j (by rw [← hrts]; exact mem_nubN hj))) ha1
      have hret := hc f _ _ _ _ hcall w S1 _ _ vals (by simp only [subX, List.length_map]; exact hn.symm) hsub hargs u
      refine ⟨av, _, hK, hret.mono fun e u' w' ⟨hu, v, he, S', σ2, hM2, hk, hv⟩ => ?_⟩
      obtain ⟨σ'', ht, hren⟩ := back_ok t1.1 hnd hpre hM2 hk hsame
      exact ⟨hu, v, he, S', σ'', t1.trans ht⟩

def callND (Γ : Ctx) (ext : Handle) (n : Nat) : Handle := fun g args ob => bif hasBody Γ g then (match runN Γ ext n g [.c (bodyOf Γ g)] ⟨params args, ob⟩ with
  | some (r, o) => some (true, r, o)
  | none => none) else none
theorem callND_ok (hP : tabOk Γ.P = true) (hZ : zeroOk Γ.P = true) (hN : (Γ.P.funcs.toList.all fun fn => !(fn.name == "runtime.NumGoroutine")) = true) {ext : Handle} (hext : CallsOK Γ ext) (n : Nat) : CallsOKD Γ (callND Γ ext n) := by
  intro g args obs r obs' h
  unfold callND at h
  obtain ⟨hb, h⟩ := cond_some h
  have h : runN Γ ext n g [.c (bodyOf Γ g)] ⟨params args, obs⟩ = some (r, obs') := by
    split at h
    · rename_i r1 o1 h1; cases h; exact h1
    · exact absurd h (by simp)
  cases hfn : Γ.P.funcs[g]? with
  | none => unfold hasBody at hb; rw [hfn] at hb; simp at hb
  | some fn =>
    unfold hasBody at hb
    rw [hfn] at hb
    obtain ⟨c, hc⟩ := Option.isSome_iff_exists.1 hb
    have hbo : bodyOf Γ g = c := by unfold bodyOf; rw [hfn]; simp only [hc]
    rw [hbo] at h
    exact ret_goodD hfn hc fun w S X hX => (runN_ok hP hZ hN hext n).1 g fn hfn w S X hX _ _ _ h
/-- the operations of a region -/
def opsAt (id : Nat) : Code → Option (Array Oper)
  | .region i ops _ => bif Nat.beq i id then some ops else none
  | .seq a b => match opsAt id a with
    | some x => some x
    | none => opsAt id b
  | .cond _ a b => match opsAt id a with
    | some x => some x
    | none => opsAt id b
  | _ => none
/-- what holds the first object -/
def rootAt (tm : Tm) (ob : Objs) (t : Nat) (K : List Nat → TypeId → TypeId → Option R) : Option R := match get tm t, ob[(0 : Nat)]? with
  | .ptr 0 p u, some (some (.box tb _)) => K p u tb
  | _, _ => none
theorem rootAt_some {tm : Tm} {ob : Objs} {t : Nat} {K : List Nat → TypeId → TypeId → Option R} {r : R} (h : rootAt tm ob t K = some r) : ∃ p u tb c, get tm t = .ptr 0 p u ∧ ob[0]? = some (some (.box tb c)) ∧ K p u tb = some r := by
  unfold rootAt at h
  split at h
  · rename_i p u tb c h1 h2; exact ⟨p, u, tb, c, h1, h2, h⟩
  · exact absurd h (by simp)
/-- a box of a type lies first -/
def boxAt (tb : TypeId) (ob : Objs) (K : Option R) : Option R := match ob[(0 : Nat)]? with
  | some (some (.box t _)) => bif Nat.beq t tb then K else none
  | _ => none
theorem boxAt_some {tb : TypeId} {ob : Objs} {K : Option R} {r : R} (h : boxAt tb ob K = some r) : (∃ c, ob[0]? = some (some (.box tb c))) ∧ K = some r := by
  unfold boxAt at h
  split at h
  · rename_i t c h1
    obtain ⟨h2, h3⟩ := cond_some h
    obtain rfl := beq_id h2
    exact ⟨⟨c, h1⟩, h3⟩
  · exact absurd h (by simp)
/-- a lock, a call put off that unlocks; a look; a call put off that stores; a call -/
def onceV (Γ : Ctx) (call callD : Handle) (f g1 g2 : FuncId) (A B C D E : List Oper) (t1 t2 t3 : Nat) (args : List AV) (obs : Objs) : Option (AV × Objs) :=
  stepOps Γ call f A A ⟨params args, obs⟩ fun st =>
  stepOps Γ call f B (B.take 3) st fun st =>
  rootAt st.tm st.ob t1 fun p1 u1 b1 =>
  stepOps Γ call f C C st fun st => match get st.tm t2 with
  | .b true => stepOps Γ call f D (D.take 3) st fun st =>
    rootAt st.tm st.ob t3 fun p2 u2 b2 =>
    stepOps Γ call f E E st fun st =>
    boxAt b2 st.ob (opCall1 Γ callD 0 g2 [.ptr 0 p2 u2, .b true] st.ob fun _ ob =>
    boxAt b1 ob (opCall1 Γ callD 0 g1 [.ptr 0 p1 u1] ob fun _ ob =>
    fin Γ.P 1 false [] ⟨[], ob⟩))
  | _ => none
theorem once_ok (hP : tabOk Γ.P = true) (hZ : zeroOk Γ.P = true) {call callD : Handle} (hc : CallsOK Γ call) (hcD : CallsOKD Γ callD) {f g1 g2 : FuncId} {fn : Func} {A B C D E : Array Oper} {t1 t2 t3 i0 i1 i2 i3 i4 : Nat} {o1 o2 : Oper} {c1 c2 : Call}
    (hf : Γ.P.funcs[f]? = some fn) (hname : (fn.name == "runtime.NumGoroutine") = false) (hres : fn.results = #[]) (hroot : rootsOf Γ.roots f = 1)
    (hb : fn.body = some (.seq (.region i0 A false) (.seq (.region i1 B false) (.seq (.region i2 C false) (.cond (.tmp t2) (.seq (.region i3 D false) (.region i4 E false)) .skip)))))
    (hdst : ([A, B, C, D, E].all fun ops => ops.toList.all fun o => match o.dst with | some d => Nat.blt d fn.ntmps | none => true) = true)
    (hB : B.size = 4 ∧ B[3]? = some o1 ∧ o1.op = .defer c1 ∧ c1.callee = .value (.func g1) ∧ o1.dst = none ∧ o1.guard = none ∧ c1.args = #[.tmp t1])
    (hD : D.size = 4 ∧ D[3]? = some o2 ∧ o2.op = .defer c2 ∧ c2.callee = .value (.func g2) ∧ o2.dst = none ∧ o2.guard = none ∧ c2.args = #[.tmp t3, .const (.bool true)])
    (hent1 : ∀ (vals : Array Value) (w : World), (callFunc g1 vals).run Γ.P w = .ok (.enter g1 vals) w) (hent2 : ∀ (vals : Array Value) (w : World), (callFunc g2 vals).run Γ.P w = .ok (.enter g2 vals) w)
    {args : List AV} {obs obs' : Objs} {r : AV} (h : onceV Γ call callD f g1 g2 A.toList B.toList C.toList D.toList E.toList t1 t2 t3 args obs = some (r, obs')) : RetX Γ f args obs r obs' := by
  intro w S σ X vals hX hM0 ha
  have hdl : ∀ ops, ops ∈ [A, B, C, D, E] → ∀ o ∈ ops.toList, ∀ d, o.dst = some d → d < fn.ntmps := by
    intro ops hm o ho d hod
    have := List.all_eq_true.1 (List.all_eq_true.1 hdst ops hm) o ho
    rw [hod] at this
    simpa [Nat.blt_eq] using this
  have hst := start_ok (fn := fn) hM0 ha
  have hrun : (callFunc f vals.toArray).run Γ.P w = .ok (.enter f vals.toArray) w := by
    have hne : ¬ fn.name = "runtime.NumGoroutine" := by simpa using hname
    simp [callFunc, hf, hb, hne]
  rw [hrun]
  show Calls Γ.P f vals.toArray w _
  refine calls_of_wp_defers hf hb ?_
  rw [hroot] at hX
  unfold onceV at h
  refine wp_seq (region_wp hP hZ hc (hdl A (by simp)) hst h fun sa aa wa Sa σa h hsta => ?_)
  refine wp_seq (defer_wp hP hZ hc hB.1 hB.2.1 hB.2.2.1 hB.2.2.2.1 hB.2.2.2.2.1 hB.2.2.2.2.2.1 (hdl B (by simp)) hsta h fun sb ab wb Sb σb h hstb => ?_)
  obtain ⟨p1, u1, b1, cb, hp1, hb1, h⟩ := rootAt_some h
  have hv1 := hstb.tm t1
  rw [hp1] at hv1
  have hstb' := hstb.off ⟨.fn (.func g1) #[], c1.args.map ab.eval⟩
  refine wp_seq (region_wp hP hZ hc (hdl C (by simp)) hstb' h fun sc ac wc Sc σc h hstc => ?_)
  have hdc := hstc.defers
  split at h
  · rename_i ht2
    have hcv := hstc.tm t2
    rw [ht2] at hcv
    simp only [RepA] at hcv
    refine wp_cond (t := true) (by simpa [Act.eval] using hcv) ?_
    simp only [if_true]
    refine wp_seq (defer_wp hP hZ hc hD.1 hD.2.1 hD.2.2.1 hD.2.2.2.1 hD.2.2.2.2.1 hD.2.2.2.2.2.1 (hdl D (by simp)) hstc h fun sd ad wd Sd σd h hstd => ?_)
    obtain ⟨p2, u2, b2, cd, hp2, hb2, h⟩ := rootAt_some h
    have hv2 := hstd.tm t3
    rw [hp2] at hv2
    have hstd' := hstd.off ⟨.fn (.func g2) #[], c2.args.map ad.eval⟩
    refine region_wp hP hZ hc (hdl E (by simp)) hstd' h fun se ae we Se σe h hste => ?_
    have hde := hste.defers
    obtain ⟨⟨ce, hbe⟩, h⟩ := boxAt_some h
    have hv2e := root_ptr (by rfl) (by exact hX) hstd.mem hste.mem rfl hb2 hbe hv2
    simp only at hde
    show Leaves Γ.P fn ae.tmps _ ae.defers .returning we
    rw [hde, hD.2.2.2.2.2.2, hB.2.2.2.2.2.2]
    obtain ⟨_, ob6, h, hcd2⟩ := call1_okD hP hste.mem hcD (vals := [ad.tmps.getD t3 undef, .bool true]) (by simp only [RepAs]; exact ⟨_, _, rfl, hv2e, _, _, rfl, by simp only [RepA], rfl⟩) h .returning
    refine leaves_cons (args := [ad.tmps.getD t3 undef, Value.bool true].toArray) (by simp) (by rw [show ((#[Operand.tmp t3, Operand.const (.bool true)] : Array Operand).map ad.eval) = [ad.tmps.getD t3 undef, Value.bool true].toArray from by simp [Act.eval]]; simpa [invoke] using hent2 _ we) ?_
    refine hcd2.mono ?_
    rintro e u' wf ⟨rfl, v, rfl, Sf, σf, tf⟩
    simp only [settle]
    obtain ⟨⟨cf, hbf⟩, h⟩ := boxAt_some h
    have hv1f := root_ptr (by rfl) (by exact hX) hstb.mem tf.1 rfl hb1 hbf hv1
    obtain ⟨_, ob7, h, hcd1⟩ := call1_okD hP tf.1 hcD (vals := [ab.tmps.getD t1 undef]) (by simp only [RepAs]; exact ⟨_, _, rfl, hv1f, rfl⟩) h .returning
    refine leaves_cons (args := [ab.tmps.getD t1 undef].toArray) (by simp) (by rw [show ((#[Operand.tmp t1] : Array Operand).map ab.eval) = [ab.tmps.getD t1 undef].toArray from by simp [Act.eval]]; simpa [invoke] using hent1 _ wf) ?_
    refine hcd1.mono ?_
    rintro e u' wg ⟨rfl, v', rfl, Sg, σg, tg⟩
    simp only [settle]
    have hstg : StOK Γ w S X 0 ⟨[], ob7⟩ { tmps := ae.tmps, defers := X.dfs } wg Sg σg := ⟨MemOK.undfs (X := X) tg.1, fun t => by simp only [get, RepA], Nat.zero_le _, rfl⟩
    obtain ⟨Sh, vh, hrh, σh, hMh, hvh⟩ := fin_ok (fn := fn) hP hX hstg (by rw [hres]; exact h)
    exact ⟨vh, hrh, vh, rfl, Sh, σh, hMh, hMh.kept, hvh⟩
  · exact absurd h (by simp)
end
end Go.Proofs.Ytbdekjlnnbjicaa.V

/- The functions without a text that sync.Once's reach: atomics, marks. -/
namespace Go.Proofs.Ytbdekjlnnbjicaa.V
open Go
set_option maxRecDepth 100000
set_option linter.unusedVariables false
set_option linter.unusedSimpArgs false

def xMark0 : List AV → Objs → Option (Bool × AV × Objs)
  | [], [] => some (true, .tuple [], [])
  | _, _ => none
def xMark : List AV → Objs → Option (Bool × AV × Objs)
  | [.ptr _ _ _], ob => some (true, .tuple [], ob)
  | _, _ => none
noncomputable def xLoad : List AV → Objs → Option (Bool × AV × Objs)
  | [.ptr j p u], ob => match opLoad Γ.P 53 (.ptr j p u) ob fun a _ => some a with
    | some (.i .u32 x) => some (true, .i .u32 x, ob)
    | _ => none
  | _, _ => none
noncomputable def xStore : List AV → Objs → Option (Bool × AV × Objs)
  | [.ptr j p u, .i .u32 y], ob => match opLoad Γ.P 53 (.ptr j p u) ob fun a _ => some a with
    | some (.i .u32 _) => match opStore Γ.P 53 (.ptr j p u) (.i .u32 y) ob fun _ ob => some ob with
      | some ob' => some (true, .tuple [], ob')
      | none => none
    | _ => none
  | _, _ => none
noncomputable def xCas : List AV → Objs → Option (Bool × AV × Objs)
  | [.ptr j p u, .i .i32 x, .i .i32 y], ob => match opLoad Γ.P 21 (.ptr j p u) ob fun a _ => some a with
    | some (.i .i32 x') => bif x' == x then (match opStore Γ.P 21 (.ptr j p u) (.i .i32 y) ob fun _ ob => some ob with
      | some ob' => some (true, .b true, ob')
      | none => none) else none
    | _ => none
  | _, _ => none
noncomputable def xAddI : List AV → Objs → Option (Bool × AV × Objs)
  | [.ptr j p u, .i .i32 y], ob => match opLoad Γ.P 21 (.ptr j p u) ob fun a _ => some a with
    | some (.i .i32 x) => match opStore Γ.P 21 (.ptr j p u) (.i .i32 (IntKind.wrap .i32 (x + y))) ob fun _ ob => some ob with
      | some ob' => some (true, .i .i32 (IntKind.wrap .i32 (x + y)), ob')
      | none => none
    | _ => none
  | _, _ => none
theorem xMark0_41 : SpecOK Γ ⟨41, xMark0⟩ := by
  intro args obs r obs' h
  change xMark0 args obs = some (true, r, obs') at h
  unfold xMark0 at h
  split at h
  · cases h
    exact ret_mark0 (f := 41) Try.func41 (by kernel_rfl) (by kernel_rfl) (by kernel_rfl) .disable (by kernel_rfl)
  · exact absurd h (by simp)
theorem xMark0_43 : SpecOK Γ ⟨43, xMark0⟩ := by
  intro args obs r obs' h
  change xMark0 args obs = some (true, r, obs') at h
  unfold xMark0 at h
  split at h
  · cases h
    exact ret_mark0 (f := 43) Try.func43 (by kernel_rfl) (by kernel_rfl) (by kernel_rfl) .enable (by kernel_rfl)
  · exact absurd h (by simp)
theorem xMark_44 : SpecOK Γ ⟨44, xMark⟩ := by
  intro args obs r obs' h
  change xMark args obs = some (true, r, obs') at h
  unfold xMark at h
  split at h
  · cases h
    exact ret_marked (f := 44) Try.func44 (by kernel_rfl) (by kernel_rfl) (by kernel_rfl) .acquire (by kernel_rfl)
  · exact absurd h (by simp)
theorem xMark_46 : SpecOK Γ ⟨46, xMark⟩ := by
  intro args obs r obs' h
  change xMark args obs = some (true, r, obs') at h
  unfold xMark at h
  split at h
  · cases h
    exact ret_marked (f := 46) Try.func46 (by kernel_rfl) (by kernel_rfl) (by kernel_rfl) .releaseMerge (by kernel_rfl)
  · exact absurd h (by simp)
theorem xLoad_ok : SpecOK Γ ⟨29, xLoad⟩ := by
  intro args obs r obs' h
  change xLoad args obs = some (true, r, obs') at h
  unfold xLoad at h
  split at h
  · split at h
    · rename_i hl
      cases h
      exact ret_load hP (f := 29) Try.func29 (by kernel_rfl) (by kernel_rfl) (by kernel_rfl) .u32 (by kernel_rfl) hl
    · exact absurd h (by simp)
  · exact absurd h (by simp)
theorem xStore_ok : SpecOK Γ ⟨37, xStore⟩ := by
  intro args obs r obs' h
  change xStore args obs = some (true, r, obs') at h
  unfold xStore at h
  split at h
  · split at h
    · rename_i hl
      split at h
      · rename_i hs
        cases h
        exact ret_store hP (f := 37) Try.func37 (by kernel_rfl) (by kernel_rfl) (by kernel_rfl) (by kernel_rfl) hl hs
      · exact absurd h (by simp)
    · exact absurd h (by simp)
  · exact absurd h (by simp)
theorem xCas_ok : SpecOK Γ ⟨42, xCas⟩ := by
  intro args obs r obs' h
  change xCas args obs = some (true, r, obs') at h
  unfold xCas at h
  split at h
  · split at h
    · rename_i hl
      obtain ⟨he, h⟩ := cond_some h
      have he := beq_iff_eq.1 he
      split at h
      · rename_i hs
        rename_i h0
        have h1 := Option.some.inj h
        simp only [Prod.mk.injEq] at h1
        obtain ⟨_, rfl, rfl⟩ := h1
        rw [he] at hl
        exact ret_cas hP (f := 42) Try.func42 (by kernel_rfl) (by kernel_rfl) (by kernel_rfl) .i32 (by kernel_rfl) hl hs
      · exact absurd h (by simp)
    · exact absurd h (by simp)
  · exact absurd h (by simp)
theorem xAddI_ok : SpecOK Γ ⟨47, xAddI⟩ := by
  intro args obs r obs' h
  change xAddI args obs = some (true, r, obs') at h
  unfold xAddI at h
  split at h
  · split at h
    · rename_i hl
      split at h
      · rename_i hs
        cases h
        exact ret_add hP (f := 47) Try.func47 (by kernel_rfl) (by kernel_rfl) (by kernel_rfl) .i32 (by kernel_rfl) hl (fun w => by simp [Op.intArith]) hs
      · exact absurd h (by simp)
    · exact absurd h (by simp)
  · exact absurd h (by simp)
noncomputable def atomS : List Spec := [⟨29, xLoad⟩, ⟨37, xStore⟩, ⟨42, xCas⟩, ⟨47, xAddI⟩, ⟨41, xMark0⟩, ⟨43, xMark0⟩, ⟨44, xMark⟩, ⟨46, xMark⟩]
theorem atomS_ok : CallsOK Γ (runS atomS) := specs_ok (.cons xLoad_ok (.cons xStore_ok (.cons xCas_ok (.cons xAddI_ok (.cons xMark0_41 (.cons xMark0_43 (.cons xMark_44 (.cons xMark_46 .nil))))))))
end Go.Proofs.Ytbdekjlnnbjicaa.V

/- strings.NewReplacer of three pairs; sync.Once's slow way: closed runs. -/
namespace Go.Proofs.Ytbdekjlnnbjicaa.V
open Go
set_option maxRecDepth 100000
set_option linter.unusedVariables false
set_option linter.unusedSimpArgs false

def argQ : List D := [.str [42], .str [92, 42], .str [63], .str [92, 63], .str [92], .str [92, 92]]
def ob1 : Objs := [some (.box 64 (.agg 64 [.d 60 (.agg [.agg [], .agg [.agg [], .int .u32 0], .agg [.agg [], .agg [.int .i32 0, .int .u32 0]]]), .err false, .ref 9 1])), some (.arr 9 argQ false)]
noncomputable def H1 : Handle := callN Γ (runS atomS) 40
noncomputable def H1D : Handle := callND Γ (runS atomS) 40
theorem H1_ok : CallsOK Γ H1 := (runN_ok hP hZ hN atomS_ok 40).2
theorem H1D_ok : CallsOKD Γ H1D := callND_ok hP hZ hN atomS_ok 40
theorem new_run : H1 22 [.sl 9 .ex argQ] [] = some (true, .ptr 0 [] 64, ob1) := by kernel_rfl
theorem k22 : RetX Γ 22 [.sl 9 .ex argQ] [] (.ptr 0 [] 64) ob1 := H1_ok _ _ _ _ _ new_run
noncomputable def opsR (id : Nat) : Array Oper := match Try.f27.body with
  | some c => (opsAt id c).getD #[]
  | none => #[]
/-- what each byte is replaced by -/
def tabQ : List D := (List.range 256).map fun (b : Nat) => bif Nat.beq b 42 || Nat.beq b 63 || Nat.beq b 92 then D.slice .any [.int .u8 92, .int .u8 (b : Nat)] else D.slice .nl []
def rowQ : List D := [.str [92], .str [63], .str [42]]
def obS (k : Nat) : Objs := [some (.box 81 (.agg 81 [.d 80 (.agg tabQ), .ref 9 k])), some (.arr 9 rowQ false)]
def ob2 : Objs := some (.box 64 (.agg 64 [.d 60 (.agg [.agg [], .agg [.agg [], .int .u32 1], .agg [.agg [], .agg [.int .i32 0, .int .u32 0]]]), .hp true 83 1 [] 81, .snil])) :: obS 2
theorem slow_run : onceV Γ H1 H1D 27 31 32 (opsR 0).toList (opsR 1).toList (opsR 2).toList (opsR 3).toList (opsR 4).toList 10 15 18 [.ptr 0 [0] 60, .hp false 25 0 [] 64] ob1 = some (.tuple [], ob2) := by kernel_rfl
def deferOf (o : Option Oper) : Option (FuncId × Array Operand) := match o with
  | some o => match o.op, o.dst, o.guard with
    | .defer c, none, none => match c.callee with
      | .value (.func g) => some (g, c.args)
      | _ => none
    | _, _, _ => none
  | none => none
theorem deferOf_some {o : Option Oper} {g : FuncId} {xs : Array Operand} (h : deferOf o = some (g, xs)) : ∃ o1 c, o = some o1 ∧ o1.op = .defer c ∧ c.callee = .value (.func g) ∧ o1.dst = none ∧ o1.guard = none ∧ c.args = xs := by
  unfold deferOf at h
  split at h
  · rename_i o1
    split at h
    · rename_i c h1 h2 h3
      split at h
      · rename_i g' hc
        cases h
        exact ⟨o1, c, rfl, h1, hc, h2, h3, rfl⟩
      · exact absurd h (by simp)
    · exact absurd h (by simp)
  · exact absurd h (by simp)
theorem enter_of {g : FuncId} {fn : Func} {c : Code} (hf : Γ.P.funcs[g]? = some fn) (hb : fn.body = some c) (hname : (fn.name == "runtime.NumGoroutine") = false) (vals : Array Value) (w : World) : (callFunc g vals).run Γ.P w = .ok (.enter g vals) w := by
  have hne : ¬ fn.name = "runtime.NumGoroutine" := by simpa using hname
  simp [callFunc, hf, hb, hne]
theorem k27 : RetX Γ 27 [.ptr 0 [0] 60, .hp false 25 0 [] 64] ob1 (.tuple []) ob2 := by
  obtain ⟨o1, c1, h1⟩ := deferOf_some (show deferOf (opsR 1)[3]? = some (31, #[.tmp 10]) by kernel_rfl)
  obtain ⟨o2, c2, h2⟩ := deferOf_some (show deferOf (opsR 3)[3]? = some (32, #[.tmp 18, .const (.bool true)]) by kernel_rfl)
  exact once_ok (f := 27) (i0 := 0) (i1 := 1) (i2 := 2) (i3 := 3) (i4 := 4) hP hZ H1_ok H1D_ok Try.func27 (by kernel_rfl) (by kernel_rfl) (by kernel_rfl) (show Try.f27.body = some (.seq (.region 0 (opsR 0) false) (.seq (.region 1 (opsR 1) false) (.seq (.region 2 (opsR 2) false) (.cond (.tmp 15) (.seq (.region 3 (opsR 3) false) (.region 4 (opsR 4) false)) .skip)))) by kernel_rfl) (by kernel_rfl)
    ⟨by kernel_rfl, h1⟩ ⟨by kernel_rfl, h2⟩ (enter_of Try.func31 rfl (by kernel_rfl)) (enter_of Try.func32 rfl (by kernel_rfl)) slow_run
end Go.Proofs.Ytbdekjlnnbjicaa.V

/- Patterns and texts: plain, without a program. -/
namespace Go.Proofs.Ytbdekjlnnbjicaa.V
open Go
set_option linter.unusedVariables false
set_option linter.unusedSimpArgs false

abbrev Tx := List UInt8
def short (s : Tx) : Bool := decide (s.length ≤ 4194304)
inductive Pc where
  | ex (c : UInt8)
  | one
  | many
  deriving DecidableEq
/-- the pieces ahead of what is no pattern; is it one? -/
def pcs : Tx → List Pc × Bool
  | [] => ([], true)
  | c :: r => if c = 92 then (match r with
      | [] => ([], false)
      | d :: q => (.ex d :: (pcs q).1, (pcs q).2))
    else ((if c = 42 then .many else if c = 63 then .one else .ex c) :: (pcs r).1, (pcs r).2)
def pcOf (c : UInt8) : Pc := if c = 42 then .many else if c = 63 then .one else .ex c
theorem pcs_nil : pcs [] = ([], true) := rfl
theorem pcs_end : pcs [92] = ([], false) := rfl
theorem pcs_esc (d : UInt8) (q : Tx) : pcs (92 :: d :: q) = (.ex d :: (pcs q).1, (pcs q).2) := by
  simp [pcs]
theorem pcs_cons {c : UInt8} (h : c ≠ 92) (r : Tx) : pcs (c :: r) = (pcOf c :: (pcs r).1, (pcs r).2) := by
  cases r <;> simp [pcs, h, pcOf]
theorem pcs_len : ∀ (n : Nat) (p : Tx), p.length ≤ n → (pcs p).1.length ≤ p.length
  | _, [], _ => by simp [pcs]
  | 0, _ :: _, h => by simp at h
  | n + 1, c :: r, h => by
    by_cases hc : c = 92
    · subst hc
      cases r with
      | nil => simp [pcs_end]
      | cons d q =>
        rw [pcs_esc]
        have := pcs_len n q (by simp at h; omega)
        simp; omega
    · rw [pcs_cons hc]
      have := pcs_len n r (by simp at h; omega)
      simp; omega
theorem pcs_app : ∀ (n : Nat) (p q : Tx), p.length ≤ n → (pcs p).2 = true → pcs (p ++ q) = ((pcs p).1 ++ (pcs q).1, (pcs q).2)
  | _, [], q, _, _ => by simp [pcs_nil]
  | 0, _ :: _, q, h, _ => by simp at h
  | n + 1, c :: r, q, h, h2 => by
    by_cases hc : c = 92
    · subst hc
      cases r with
      | nil => rw [pcs_end] at h2; cases h2
      | cons d r =>
        rw [pcs_esc] at h2
        have := pcs_app n r q (by simp at h; omega) h2
        rw [List.cons_append, List.cons_append, pcs_esc, pcs_esc, this]
        simp
    · rw [pcs_cons hc] at h2
      have := pcs_app n r q (by simp at h; omega) h2
      rw [List.cons_append, pcs_cons hc, pcs_cons hc, this]
      simp
def anyS (f : Tx → Bool) : Tx → Bool
  | [] => f []
  | c :: s => f (c :: s) || anyS f s
/-- does a text match pieces? -/
def mt : List Pc → Tx → Bool
  | [], s => s.isEmpty
  | .many :: l, s => anyS (mt l) s
  | .one :: l, s => match s with
    | [] => false
    | _ :: r => mt l r
  | .ex b :: l, s => match s with
    | [] => false
    | c :: r => (b == c) && mt l r
theorem anyS_iff {f : Tx → Bool} : ∀ {s : Tx}, anyS f s = true ↔ ∃ t u, s = t ++ u ∧ f u = true
  | [] => by
    constructor
    · intro h; exact ⟨[], [], rfl, h⟩
    · rintro ⟨t, u, h, hu⟩
      have : t = [] ∧ u = [] := by simpa using h.symm
      obtain ⟨rfl, rfl⟩ := this
      exact hu
  | c :: s => by
    simp only [anyS, Bool.or_eq_true]
    constructor
    · rintro (h | h)
      · exact ⟨[], _, rfl, h⟩
      · obtain ⟨t, u, rfl, hu⟩ := anyS_iff.1 h
        exact ⟨c :: t, u, rfl, hu⟩
    · rintro ⟨t, u, h, hu⟩
      cases t with
      | nil => left; simp at h; rw [h]; exact hu
      | cons d t =>
        simp only [List.cons_append, List.cons.injEq] at h
        right
        exact anyS_iff.2 ⟨t, u, h.2, hu⟩
theorem many_iff {l : List Pc} {s : Tx} : mt (.many :: l) s = true ↔ ∃ t u, s = t ++ u ∧ mt l u = true := by
  simp only [mt]; exact anyS_iff
theorem many_mono {l : List Pc} {x v : Tx} (h : mt (.many :: l) v = true) : mt (.many :: l) (x ++ v) = true := by
  obtain ⟨t, u, rfl, hu⟩ := many_iff.1 h
  exact many_iff.2 ⟨x ++ t, u, by simp, hu⟩
theorem many_skip {l : List Pc} {c : UInt8} {s : Tx} (h : mt l (c :: s) = false) : mt (.many :: l) (c :: s) = mt (.many :: l) s := by
  simp only [mt, anyS, h, Bool.false_or]
theorem mt_app : ∀ {l1 l2 : List Pc} {s : Tx}, mt (l1 ++ l2) s = true ↔ ∃ a b, s = a ++ b ∧ mt l1 a = true ∧ mt l2 b = true
  | [], l2, s => by
    constructor
    · intro h; exact ⟨[], s, rfl, rfl, h⟩
    · rintro ⟨a, b, rfl, ha, hb⟩
      simp only [mt, List.isEmpty_iff] at ha
      subst ha
      exact hb
  | .many :: l1, l2, s => by
    rw [List.cons_append, many_iff]
    constructor
    · rintro ⟨t, u, rfl, h⟩
      obtain ⟨a, b, rfl, ha, hb⟩ := mt_app.1 h
      exact ⟨t ++ a, b, by simp, many_iff.2 ⟨t, a, rfl, ha⟩, hb⟩
    · rintro ⟨a, b, rfl, ha, hb⟩
      obtain ⟨t, u, rfl, hu⟩ := many_iff.1 ha
      exact ⟨t, u ++ b, by simp, mt_app.2 ⟨u, b, rfl, hu, hb⟩⟩
  | .one :: l1, l2, s => by
    cases s with
    | nil =>
      simp only [List.cons_append, mt]
      constructor
      · intro h; cases h
      · rintro ⟨a, b, h, ha, hb⟩
        cases a with
        | nil => exact ha
        | cons _ _ => simp at h
    | cons c s =>
      simp only [List.cons_append, mt]
      constructor
      · intro h
        obtain ⟨a, b, rfl, ha, hb⟩ := mt_app.1 h
        exact ⟨c :: a, b, rfl, ha, hb⟩
      · rintro ⟨a, b, h, ha, hb⟩
        cases a with
        | nil => cases ha
        | cons d a =>
          simp only [List.cons_append, List.cons.injEq] at h
          exact mt_app.2 ⟨a, b, h.2, ha, hb⟩
  | .ex e :: l1, l2, s => by
    cases s with
    | nil =>
      simp only [List.cons_append, mt]
      constructor
      · intro h; cases h
      · rintro ⟨a, b, h, ha, hb⟩
        cases a with
        | nil => exact ha
        | cons _ _ => simp at h
    | cons c s =>
      simp only [List.cons_append, mt, Bool.and_eq_true]
      constructor
      · rintro ⟨h0, h⟩
        obtain ⟨a, b, rfl, ha, hb⟩ := mt_app.1 h
        exact ⟨c :: a, b, rfl, by simpa [mt] using ⟨by simpa using h0, ha⟩, hb⟩
      · rintro ⟨a, b, h, ha, hb⟩
        cases a with
        | nil => cases ha
        | cons d a =>
          simp only [List.cons_append, List.cons.injEq] at h
          simp only [mt, Bool.and_eq_true] at ha
          exact ⟨by rw [h.1]; exact ha.1, mt_app.2 ⟨a, b, h.2, ha.2, hb⟩⟩
/-- does one byte fit one piece? -/
def fit : Pc → UInt8 → Bool
  | .ex b, c => b == c
  | .one, _ => true
  | .many, _ => false
def fits1 : List Pc → Tx → Bool
  | [], [] => true
  | p :: l, c :: s => fit p c && fits1 l s
  | _, _ => false
theorem fits1_len : ∀ {A : List Pc} {u : Tx}, fits1 A u = true → A.length = u.length
  | [], [], _ => rfl
  | [], _ :: _, h => by cases h
  | _ :: _, [], h => by cases h
  | p :: l, c :: s, h => by
    simp only [fits1, Bool.and_eq_true] at h
    simp [fits1_len h.2]
theorem fits1_snoc : ∀ {A : List Pc} {u : Tx} {p : Pc} {c : UInt8}, fits1 A u = true → fit p c = true → fits1 (A ++ [p]) (u ++ [c]) = true
  | [], [], p, c, _, h => by simp [fits1, h]
  | [], _ :: _, _, _, h, _ => by cases h
  | _ :: _, [], _, _, h, _ => by cases h
  | q :: l, d :: s, p, c, h, h2 => by
    simp only [fits1, Bool.and_eq_true] at h
    simp only [List.cons_append, fits1, Bool.and_eq_true]
    exact ⟨h.1, fits1_snoc h.2 h2⟩
theorem mt_fits : ∀ {A R : List Pc} {u v : Tx}, fits1 A u = true → mt (A ++ R) (u ++ v) = mt R v
  | [], R, [], v, _ => rfl
  | [], _, _ :: _, _, h => by cases h
  | _ :: _, _, [], _, h => by cases h
  | p :: A, R, c :: u, v, h => by
    simp only [fits1, Bool.and_eq_true] at h
    have ih := mt_fits (R := R) (v := v) h.2
    cases p with
    | many => cases h.1
    | one => simpa [mt] using ih
    | ex b =>
      have := h.1
      simp only [fit] at this
      simp [mt, this, ih]
/-- no piece is for many: what matches has as many bytes, at least -/
theorem mt_lit_inv : ∀ {A R : List Pc} {u t : Tx}, fits1 A u = true → mt (A ++ R) t = true → ∃ a b, t = a ++ b ∧ a.length = A.length ∧ mt R b = true
  | [], R, _, t, _, h2 => ⟨[], t, rfl, rfl, h2⟩
  | _ :: _, _, [], _, h, _ => by cases h
  | p :: A, R, c :: u, t, h, h2 => by
    simp only [fits1, Bool.and_eq_true] at h
    cases p with
    | many => cases h.1
    | one =>
      cases t with
      | nil => simp [mt] at h2
      | cons d t =>
        simp only [List.cons_append, mt] at h2
        obtain ⟨a, b, rfl, ha, hb⟩ := mt_lit_inv h.2 h2
        exact ⟨d :: a, b, rfl, by simp [ha], hb⟩
    | ex e =>
      cases t with
      | nil => simp [mt] at h2
      | cons d t =>
        simp only [List.cons_append, mt, Bool.and_eq_true] at h2
        obtain ⟨a, b, rfl, ha, hb⟩ := mt_lit_inv h.2 h2.2
        exact ⟨d :: a, b, rfl, by simp [ha], hb⟩
theorem suffix_of_len {a b u v : Tx} (h : u ++ v = a ++ b) (hl : u.length ≤ a.length) : ∃ x, v = x ++ b := by
  refine ⟨a.drop u.length, ?_⟩
  have := congrArg (List.drop u.length) h
  rw [List.drop_left, List.drop_append_of_le_length hl] at this
  exact this
/-- the last star alone counts -/
theorem many_last {A B : List Pc} {u v : Tx} (h : fits1 A u = true) : mt (.many :: (A ++ .many :: B)) (u ++ v) = mt (.many :: B) v := by
  rw [Bool.eq_iff_iff]
  constructor
  · intro h1
    obtain ⟨t, w, hw, h2⟩ := many_iff.1 h1
    obtain ⟨a, b, rfl, ha, hb⟩ := mt_lit_inv h h2
    obtain ⟨x, rfl⟩ := suffix_of_len (a := t ++ a) (b := b) (u := u) (v := v) (by rw [hw]; simp) (by simp [ha, fits1_len h])
    exact many_mono hb
  · intro h1
    exact many_iff.2 ⟨[], u ++ v, rfl, by rw [mt_fits h]; exact h1⟩
theorem many_end {A R : List Pc} {u : Tx} (h : fits1 A u = true) : mt (.many :: (A ++ R)) u = mt R [] := by
  rw [Bool.eq_iff_iff]
  constructor
  · intro h1
    obtain ⟨t, w, hw, h2⟩ := many_iff.1 h1
    obtain ⟨a, b, rfl, ha, hb⟩ := mt_lit_inv h h2
    obtain ⟨x, hx⟩ := suffix_of_len (a := t ++ a) (b := b) (u := u) (v := []) (by rw [List.append_nil, hw]; simp) (by simp [ha, fits1_len h])
    have : x = [] ∧ b = [] := by simpa using hx.symm
    rw [this.2] at hb
    exact hb
  · intro h1
    refine many_iff.2 ⟨[], u, rfl, ?_⟩
    have := mt_fits (R := R) (v := []) h
    rw [List.append_nil] at this
    rw [this]; exact h1
theorem mt_nofit {R : List Pc} {p : Pc} {c : UInt8} {v : Tx} (hm : p ≠ .many) (h : fit p c = false) : mt (p :: R) (c :: v) = false := by
  cases p with
  | many => exact absurd rfl hm
  | one => cases h
  | ex b => simp only [fit] at h; simp [mt, h]
theorem mt_nil {R : List Pc} : mt (.many :: R) [] = mt R [] := rfl
theorem mt_nil_no {R : List Pc} {p : Pc} (h : p ≠ .many) : mt (p :: R) [] = false := by
  cases p with
  | many => exact absurd rfl h
  | one => rfl
  | ex b => rfl
/-- how many bytes at least -/
def lstL : List Pc → Nat
  | [] => 0
  | .many :: r => lstL r
  | _ :: r => lstL r + 1
theorem lst_le : ∀ {l : List Pc} {s : Tx}, mt l s = true → lstL l ≤ s.length
  | [], s, _ => by simp [lstL]
  | .many :: l, s, h => by
    obtain ⟨t, u, rfl, hu⟩ := many_iff.1 h
    have := lst_le hu
    simp [lstL]; omega
  | .one :: l, [], h => by simp [mt] at h
  | .one :: l, c :: s, h => by
    have := lst_le (l := l) (s := s) (by simpa [mt] using h)
    simp [lstL]; omega
  | .ex b :: l, [], h => by simp [mt] at h
  | .ex b :: l, c :: s, h => by
    simp only [mt, Bool.and_eq_true] at h
    have := lst_le h.2
    simp [lstL]; omega
/-- the one text -/
def plnO : List Pc → Option Tx
  | [] => some []
  | .ex c :: r => (plnO r).map (c :: ·)
  | _ :: _ => none
/-! ### a text's own pattern -/
def spc (c : UInt8) : Bool := c == 42 || c == 63 || c == 92
def quoteL : Tx → Tx
  | [] => []
  | c :: r => bif spc c then 92 :: c :: quoteL r else c :: quoteL r
def numS : Tx → Nat
  | [] => 0
  | c :: r => bif spc c then numS r + 1 else numS r
theorem quote_len : ∀ s : Tx, (quoteL s).length = s.length + numS s
  | [] => rfl
  | c :: r => by
    have := quote_len r
    simp only [quoteL, numS]
    cases spc c <;> simp <;> omega
theorem numS_le : ∀ s : Tx, numS s ≤ s.length
  | [] => Nat.le_refl _
  | c :: r => by
    have := numS_le r
    simp only [numS]
    cases spc c <;> simp <;> omega
theorem quote_no : ∀ s : Tx, numS s = 0 → quoteL s = s
  | [], _ => rfl
  | c :: r, h => by
    simp only [numS] at h
    cases hc : spc c with
    | true => rw [hc] at h; simp at h
    | false =>
      rw [hc] at h
      simp only [quoteL, hc, cond_false, quote_no r (by simpa using h)]
theorem numS_app : ∀ s t : Tx, numS (s ++ t) = numS s + numS t
  | [], t => by simp [numS]
  | c :: r, t => by
    have := numS_app r t
    simp only [List.cons_append, numS]
    cases spc c <;> simp <;> omega
theorem quote_app : ∀ s t : Tx, quoteL (s ++ t) = quoteL s ++ quoteL t
  | [], t => rfl
  | c :: r, t => by
    have := quote_app r t
    simp only [List.cons_append, quoteL]
    cases spc c <;> simp [this]
theorem pcs_quote : ∀ s : Tx, pcs (quoteL s) = (s.map .ex, true)
  | [] => rfl
  | c :: r => by
    have ih := pcs_quote r
    simp only [quoteL]
    cases hc : spc c with
    | true =>
      rw [cond_true, pcs_esc, ih]; rfl
    | false =>
      have h : ¬ c = 42 ∧ ¬ c = 63 ∧ c ≠ 92 := by
        unfold spc at hc
        simp only [Bool.or_eq_false_iff, beq_eq_false_iff_ne] at hc
        exact ⟨hc.1.1, hc.1.2, hc.2⟩
      rw [cond_false, pcs_cons h.2.2, ih]
      simp [pcOf, h.1, h.2.1]
theorem mt_ex : ∀ s t : Tx, mt (s.map .ex) t = (s == t)
  | [], [] => rfl
  | [], _ :: _ => rfl
  | c :: s, [] => rfl
  | c :: s, d :: t => by
    have := mt_ex s t
    show ((c == d) && mt (s.map .ex) t) = _
    rw [this]
    rfl
theorem plnO_ex : ∀ s : Tx, plnO (s.map .ex) = some s
  | [] => rfl
  | c :: s => by simp [plnO, plnO_ex s]
end Go.Proofs.Ytbdekjlnnbjicaa.V
