/- The entry: a law's claim, from its contract over data. -/
import Derived.Test.YtjbemleloffafaaDoorFrX
namespace Go.Proofs.YtjbemleloffafaaDoor.V
open Go Go.ChangeShapes
set_option linter.unusedVariables false
set_option linter.unusedSimpArgs false

/-- data of these types -/
def HasL (P : Program) (ys : List D) (ts : List TypeId) : Prop := ∃ (w : World) (S : Addr → Prop) (vs : List Value), RepFs P w S ys ts vs
def Has (P : Program) (y : D) (t : TypeId) : Prop := ∃ (w : World) (S : Addr → Prop) (vs : List Value), RepT P w S y t vs
def argsOf (P : Program) : List TypeId → List D → List AV
  | t :: ts, y :: ys => fromD P t y :: argsOf P ts ys
  | _, _ => []

section
variable {H : Type} {enc : TypeId × Value → H} {P : Program} {w w' : World} {sp : Nat → Bool} {held : Bool}

theorem val_of (hP : tabOk P = true) {r : Reach} {base : Nat} {t : TypeId} {v : Value} {y : D} (hok : Value.okWide P w r base t v) (h : RepT P w (InW w) y t v.cells.toList) : v = valOf P t v.cells.toList := by
  cases y with
  | agg fs =>
    rw [valOf_agg h]
    simp only [RepT] at h
    have hs : ∃ d, und P t = some d ∧ ((∃ f, d = .struct f) ∨ ∃ n e, d = .array n e) := by
      rcases h with ⟨f, h, _⟩ | ⟨n, e, h, _⟩
      · exact ⟨_, h, .inl ⟨_, rfl⟩⟩
      · exact ⟨_, h, .inr ⟨_, _, rfl⟩⟩
    obtain ⟨d, hd, hk⟩ := hs
    have hu := (und_lt hd).2
    unfold Value.okWide at hok
    rw [hu] at hok
    rcases hk with ⟨f, rfl⟩ | ⟨n, e, rfl⟩ <;> obtain ⟨cs, rfl, _⟩ := hok <;> simp [Value.cells]
  | int k n =>
    simp only [RepT] at h
    have hu := (und_lt h.1).2
    unfold Value.okWide at hok
    rw [hu] at hok
    cases v <;> simp [Cell.okWide, Cell.ok, hu] at hok
    simp [valOf, ds_of h.1, Value.cells]
  | bool b =>
    simp only [RepT] at h
    have hu := (und_lt h.1).2
    unfold Value.okWide at hok
    rw [hu] at hok
    cases v <;> simp [Cell.okWide, Cell.ok, hu] at hok
    simp [valOf, ds_of h.1, Value.cells]
  | str l =>
    simp only [RepT] at h
    have hu := (und_lt h.1).2
    unfold Value.okWide at hok
    rw [hu] at hok
    cases v <;> simp [Cell.okWide, Cell.ok, hu] at hok
    simp [valOf, ds_of h.1, Value.cells]
  | slice c xs =>
    simp only [RepT] at h
    obtain ⟨e, a, cap, h1, h2⟩ := h
    have hu := (und_lt h1).2
    unfold Value.okWide at hok
    rw [hu] at hok
    cases v <;> simp [Cell.okWide, Cell.ok, hu] at hok
    simp [valOf, ds_of h1, Value.cells]

theorem args_rep (hP : tabOk P = true) {σ : Loc} {ob : Objs} {r : Reach} {base : Nat} {m : Nat} : ∀ {ts : List TypeId} {vs : List Value} {ds : List (DataW H)} {ps : List MemPlace}, (∀ t ∈ ts, dataTy P m t = true) → DataW.TrodAll enc P w 0 sp held ts vs ds ps →
    (∀ (j : Nat) t v, ts[j]? = some t → vs[j]? = some v → Value.okWide P w r base t v) →
    ∃ ys cs, RepFs P w (InW w) ys ts cs ∧ fineL ys ∧ bulkL ys ≤ Rows.uptoBulkAll ds ∧ RepAs P w (InW w) σ ob (argsOf P ts ys) vs
  | [], vs, ds, ps, ht, h, hok => by
    obtain ⟨rfl, rfl, rfl⟩ := trodAll_nil h
    exact ⟨[], [], by simp [RepFs], by simp only [fineL], by simp [bulkL], by simp only [argsOf, RepAs]⟩
  | t :: ts, vs, ds, ps, ht, h, hok => by
    obtain ⟨v, vs', d, ds', p, q, rfl, rfl, rfl, ⟨n, h1⟩, h2⟩ := trodAll_cons h
    obtain ⟨ys, cs, f1, f2, f3, f4⟩ := args_rep hP (fun t ht' => ht t (by simp [ht'])) h2 (fun j t v h1 h2 => hok (j + 1) t v (by simpa using h1) (by simpa using h2))
    obtain ⟨y, g1, g2, g3, _⟩ := trod_rep hP n m t (ht t (by simp)) _ _ h1
    have hv := val_of hP (hok 0 t v rfl rfl) g1
    have g3 : bulkD y ≤ Rows.uptoBulk d := g3
    refine ⟨y :: ys, v.cells.toList ++ cs, ?_, by simp only [fineL]; exact ⟨g2, f2⟩, by simp only [bulkL, Rows.uptoBulkAll]; omega, ?_⟩
    · simp only [RepFs]; exact ⟨t, ts, _, _, rfl, rfl, g1, f1⟩
    · simp only [argsOf, RepAs]
      refine ⟨v, vs', rfl, ?_, f4⟩
      have := fromD_ok (σ := σ) (ob := ob) hP g1
      rw [← hv] at this
      exact this
theorem place_same {p : MemPlace} (hb : ∀ b, b < w.heap.size → w'.heap[b]? = w.heap[b]?) (hp : p.block < w.heap.size) : w.sameAt w' p := by
  cases p with
  | cell b off => exact cell_of_heap (hb b hp)
  | map b => exact hb b hp
theorem all_carry {base : Nat} : ∀ {ts : List TypeId} {vs : List Value} {ds : List (DataW H)} {ps : List MemPlace}, DataW.TrodAll enc P w base sp held ts vs ds ps → (∀ p ∈ ps, w.sameAt w' p) → DataW.TrodAll enc P w' base sp held ts vs ds ps
  | [], vs, ds, ps, h, _ => by
    obtain ⟨rfl, rfl, rfl⟩ := trodAll_nil h
    rfl
  | t :: ts, vs, ds, ps, h, hs => by
    obtain ⟨v, vs', d, ds', p, q, rfl, rfl, rfl, ⟨n, h1⟩, h2⟩ := trodAll_cons h
    exact ⟨p, q, ⟨n, DataW.trod_carry n t _ _ h1 (fun x hx => hs x (List.mem_append_left _ hx))⟩, all_carry h2 (fun x hx => hs x (List.mem_append_right _ hx)), rfl⟩

/-- behind the call: true; all that was there is as it was -/
theorem post_true {f : Func} {s : ChangeSpec} {fresh handsOn again : Bool} {W W' : World} {args : Array Value} {ds gs : List (DataW H)} {before : List MemPlace} {tb : TypeId}
    (hl : laidOutB P = true) (hm : mapsRowed P = true) (hz : ((List.range P.types.size).all fun t => match P.underlying t with | some (.slice e) => decide (0 < P.cellsOf e) | _ => true) = true)
    (hts : ∀ t ∈ f.params.toList, t < P.types.size) (hr : f.resultTypes = #[tb]) (hb : P.underlying tb = some .bool) (hv : s.vars = [])
    (hs : s.fn H ds = { results := [.lit (.bool true)], args := ds })
    (hW : DataW.Whole enc P f.params.toList s.vars false W args.toList ds gs before)
    (hold : ∀ b, b < W.heap.size → W'.heap[b]? = W.heap[b]?) (henv : W'.os = W.os ∧ W'.output = W.output) :
    s.post enc P f false fresh handsOn again W args (.bool true) W' := by
  have hW0 := hW
  obtain ⟨p, q, hA, hV, rfl, hfz, _⟩ := hW
  rw [hv] at hV
  obtain ⟨rfl, rfl⟩ := trodVars_none hV
  have hlt := DataW.TrodAll.lt hA
  have hcar := all_carry (w' := W') hA (fun x hx => place_same hold (hlt x hx))
  have hsp : ∀ sp' : Nat → Bool, (∀ x ∈ p, sp' x.block = true) → DataW.TrodAll enc P W' 0 sp' true f.params.toList args.toList ds p := fun sp' h =>
    DataW.TrodAll.respare (kids_rows hl hm) (slices_full_of P hz) hts hcar h
  have hrl : ((Value.bool true).resultList f.resultTypes.size) = [.bool true] := by rw [hr]; rfl
  have hres : ∀ (b : Nat) (sp' : Nat → Bool) (hd : Bool), DataW.TrodAll enc P W' b sp' hd f.resultTypes.toList ((Value.bool true).resultList f.resultTypes.size) [.lit (.bool true)] [] := fun b sp' hd => by
    rw [hrl, hr]
    exact trodAll_mk1 (Go.RowKit.shut_bool hb _)
  have hs' : s.fn H (ds ++ []) = { results := [.lit (.bool true)], args := ds } := by rw [List.append_nil]; exact hs
  refine ⟨ds, [], _, [], p, [], hW0, by rw [hs']; exact hres _ _ _, by rw [hs']; exact hsp _ (fun x hx => by simpa using hlt x hx), by rw [hs', hv]; rfl, ?_, fun _ => ⟨?_, ?_⟩⟩
  · refine ⟨henv.1, henv.2, fun i hi => ?_⟩
    rw [hold i hi]
    split
    · rename_i h1 h2
      rw [h1] at h2
      cases h2
      exact ⟨rfl, rfl, rfl, fun _ _ => rfl⟩
    · rename_i h1 h2
      rw [h1] at h2
      cases h2
      exact .inr ⟨rfl, rfl⟩
    · rfl
  · exact Go.RowKit.ok_one hr rfl (Go.RowKit.okWide_bool_mk hb _)
  · refine ⟨[.lit (.bool true)] ++ ds, [], ([] ++ p) ++ [], ⟨[] ++ p, [], trodAll_append (hsp _ (fun _ _ => rfl)) (hres _ _ _), by rw [hv]; rfl, rfl, ?_, by simp⟩, ?_⟩
    · intro b off hx
      have hx' : MemPlace.cell b off ∈ p := by simpa using hx
      rw [frozen_of_heap (hold b (hlt _ hx'))]
      exact hfz b off (by simpa using hx')
    · intro x hx _
      simpa using hx
/-- a law over data, with no package variable: what its claim asks -/
theorem contract_ok {Γ : Ctx} (hP : tabOk Γ.P = true) (hl : laidOutB Γ.P = true) (hm : mapsRowed Γ.P = true)
    (hz : ((List.range Γ.P.types.size).all fun t => match Γ.P.underlying t with | some (.slice e) => decide (0 < Γ.P.cellsOf e) | _ => true) = true) {f : FuncId} {fn : Func} {tb : TypeId} (hfn : Γ.P.funcs[f]? = some fn) (hbody : fn.body.isSome = true) (hname : (fn.name == "runtime.NumGoroutine") = false) (hts : (fn.params.toList.all fun t => dataTy Γ.P 12 t) = true)
    (hr : fn.resultTypes = #[tb]) (hb : Γ.P.underlying tb = some .bool) {s : ChangeSpec} (hv : s.vars = []) (hs : ∀ ds : List (DataW H), ds.length = fn.params.size → s.fn H ds = { results := [.lit (.bool true)], args := ds })
    (law : ∀ ys, HasL Γ.P ys fn.params.toList → fineL ys → bulkL ys ≤ 1048576 → Ret Γ f (argsOf Γ.P fn.params.toList ys) (.b true))
    {fresh handsOn again : Bool} (W : World) (hG : GlobOK Γ W (InW W)) (base : Nat) (args : Array Value) (ds gs : List (DataW H)) (before : List MemPlace)
    (hval : ∀ (j : Nat) t v, fn.params[j]? = some t → args[j]? = some v → Value.okWide Γ.P W .any base t v)
    (hW : DataW.Whole enc Γ.P fn.params.toList s.vars false W args.toList ds gs before) (hk : Rows.uptoSmall H (ds ++ gs) = true) :
    Calls Γ.P f args W fun e W' => ∃ v, e = .returned v ∧ s.post enc Γ.P fn false fresh handsOn again W args v W' := by
  have hW0 := hW
  obtain ⟨p, q, hA, hV, rfl, _, _⟩ := hW
  rw [hv] at hV
  obtain ⟨rfl, rfl⟩ := trodVars_none hV
  have hts' : ∀ t ∈ fn.params.toList, dataTy Γ.P 12 t = true := List.all_eq_true.1 hts
  obtain ⟨ys, cs, f1, f2, f3, f4⟩ := args_rep (σ := noLoc) (ob := []) hP hts' hA (fun j t v h1 h2 => hval j t v (by simpa using h1) (by simpa using h2))
  have hbulk : bulkL ys ≤ 1048576 := by
    have h := of_decide_eq_true hk
    rw [List.append_nil] at h
    exact Nat.le_trans f3 h
  have hret := law ys ⟨W, _, cs, f1⟩ f2 hbulk W (InW W) args.toList (fun a h => h) hG f4
  have hrun : (callFunc f args.toList.toArray).run Γ.P W = .ok (.enter f args) W := by
    have hne : ¬ fn.name = "runtime.NumGoroutine" := by simpa using hname
    obtain ⟨c, hc⟩ := Option.isSome_iff_exists.1 hbody
    simp [callFunc, hfn, hc, hne]
  rw [hrun] at hret
  have hlen : ds.length = fn.params.size := by
    have : ∀ {ts : List TypeId} {vs : List Value} {ds : List (DataW H)} {ps : List MemPlace}, DataW.TrodAll enc Γ.P W 0 (fun _ => true) true ts vs ds ps → ds.length = ts.length := by
      intro ts
      induction ts with
      | nil => intro vs ds ps h; obtain ⟨rfl, rfl, rfl⟩ := trodAll_nil h; rfl
      | cons t ts ih =>
        intro vs ds ps h
        obtain ⟨v, vs', d, ds', p, q, rfl, rfl, rfl, _, h2⟩ := trodAll_cons h
        simp [ih h2]
    simpa using this hA
  refine Calls.mono hret fun e W' ⟨v, he, S', hleft, hrep⟩ => ⟨v, he, ?_⟩
  simp only [RepA] at hrep
  subst hrep
  refine post_true hl hm hz (fun t ht => ?_) hr hb hv (hs ds hlen) hW0 hleft.same hleft.env
  have := hts' t ht
  simp only [dataTy] at this
  split at this
  all_goals first | (rename_i hd; exact (und_lt (ds_some hd (by simp))).1) | (exact absurd this (by simp))
end
end Go.Proofs.YtjbemleloffafaaDoor.V
