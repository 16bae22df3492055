/- FrR, FrAB: texts of this claim, put together in build order by program. -/
import Derived.Test.YtbdekjlnnbjicaaBe
import Derived.Laws.BytesString
/- Operations. Part nine: conversions, slices of slices, lengths, least and greatest. -/
namespace Go.Proofs.Ytbdekjlnnbjicaa.V
open Go
set_option linter.unusedVariables false
set_option linter.unusedSimpArgs false

section
variable {Γ : Ctx} {w0 : World} {S0 : Addr → Prop} {X : XB} {w w' : World} {S S' : Addr → Prop} {σ σ' : Loc} {ob ob' : Objs} {R : Type}

/-! ### lengths -/
theorem len_ok (hM : MemOK Γ w0 S0 X w S σ ob) {ts : List TypeId} {t : TypeId} {ty : TypeId} {a : AV} {va : Value} {l : List AV} {lv : List Value} {K : AV → Objs → Option R} {r : R}
    (ha : RepA Γ.P w S σ ob a va) (h : opBuiltin Γ.P .len (t :: ts) (a :: l) ob K = some r) : Out Γ w0 S0 X w S σ ob K r (Builtin.len_ (t :: ts).toArray ty (va :: lv).toArray) := by
  simp only [opBuiltin] at h
  split at h
  · rename_i n e hd
    exact out_same hM h (by simp [Builtin.len_, run_underlying (und_lt (ds_some hd (by simp))).2, goInt]) repI
  · rename_i p hd
    split at h
    · rename_i n e hd'
      exact out_same hM h (by simp [Builtin.len_, run_underlying (und_lt (ds_some hd (by simp))).2, run_underlying (und_lt (ds_some hd' (by simp))).2, goInt]) repI
    · exact absurd h (by simp)
  · rename_i hd
    split at h
    · rename_i l
      simp only [RepA] at ha
      obtain ⟨s, rfl, rfl⟩ := ha
      refine out_same hM h (cv := .int .i64 s.data.toList.length) ?_ repI
      simp [Builtin.len_, run_underlying (und_lt (ds_some hd (by simp))).2, goInt]
    · exact absurd h (by simp)
  · rename_i e hd
    have hu := (und_lt (ds_some hd (by simp))).2
    split at h
    · rename_i n hn
      refine out_same hM h (cv := .int .i64 n) ?_ repI
      have : ∃ b c, va = .slice b n c := by
        cases a <;> simp only [lenA] at hn
        case snil => cases hn; simp only [RepA] at ha; exact ⟨_, _, ha⟩
        case sl e' c xs => cases hn; simp only [RepA] at ha; obtain ⟨b, cap, rfl, _⟩ := ha; exact ⟨_, _, rfl⟩
        case ref e' j =>
          split at hn
          · rename_i e1 xs fz hob
            cases hn
            simp only [RepA] at ha
            obtain ⟨_, b, m, cap, rfl, hq⟩ := ha
            obtain ⟨rfl, rfl, rfl, rfl⟩ := hq _ _ _ hob
            exact ⟨_, _, rfl⟩
          · exact absurd hn (by simp)
        all_goals exact absurd hn (by simp)
      obtain ⟨b, c, rfl⟩ := this
      simp [Builtin.len_, run_underlying hu, goInt]
    · exact absurd h (by simp)
  · exact absurd h (by simp)

theorem minL_run {k : IntKind} : ∀ (l : List AV) (lv : List Value) (x y : Int), RepAs Γ.P w S σ ob l lv → minL k x l = some y → (lv.foldlM Builtin.min2 (.int k x)).run Γ.P w = .ok (.int k y) w
  | [], lv, x, y, h, hm => by simp only [RepAs] at h; subst h; simp only [minL] at hm; cases hm; simp
  | a :: r, lv, x, y, h, hm => by
    simp only [RepAs] at h
    obtain ⟨v, vs', rfl, h1, h2⟩ := h
    cases a <;> simp only [minL] at hm
    case i k' n =>
      simp only [RepA] at h1; subst h1
      have := minL_run r vs' _ y h2 hm
      simp only [List.foldlM_cons, Builtin.min2, Sem.run_bind, Sem.run_pure, Result.andThen_ok]
      by_cases hn : n < x
      · rw [if_pos hn]; simpa [hn] using this
      · rw [if_neg hn]; simpa [hn] using this
    all_goals exact absurd hm (by simp)
theorem maxL_run {k : IntKind} : ∀ (l : List AV) (lv : List Value) (x y : Int), RepAs Γ.P w S σ ob l lv → maxL k x l = some y → (lv.foldlM Builtin.max2 (.int k x)).run Γ.P w = .ok (.int k y) w
  | [], lv, x, y, h, hm => by simp only [RepAs] at h; subst h; simp only [maxL] at hm; cases hm; simp
  | a :: r, lv, x, y, h, hm => by
    simp only [RepAs] at h
    obtain ⟨v, vs', rfl, h1, h2⟩ := h
    cases a <;> simp only [maxL] at hm
    case i k' n =>
      simp only [RepA] at h1; subst h1
      have := maxL_run r vs' _ y h2 hm
      simp only [List.foldlM_cons, Builtin.max2, Sem.run_bind, Sem.run_pure, Result.andThen_ok]
      by_cases hn : n > x
      · rw [if_pos hn]; simpa [show x < n from hn] using this
      · rw [if_neg hn]; simpa [show ¬ x < n from hn] using this
    all_goals exact absurd hm (by simp)

/-! ### slices of slices -/
/-- what is to be known of a bound -/
def OptRep (Γ : Ctx) (w : World) (S : Addr → Prop) (σ : Loc) (ob : Objs) (a : Option AV) (va : Option Value) : Prop :=
  match a, va with | none, none => True | some x, some v => RepA Γ.P w S σ ob x v | _, _ => False
theorem bnd_ok {a : Option AV} {va : Option Value} {df top : Nat} {K : Nat → Option R} {r : R} (h : bnd a df top K = some r)
    (hv : OptRep Γ w S σ ob a va) :
    ∃ n, K n = some r ∧ (a = none → n = df) ∧ ∀ v, va = some v → n ≤ top ∧ ∀ y code, top ≤ y → (Instr.sliceBound v y code).run Γ.P w = .ok n w := by
  cases a with
  | none =>
    cases va with
    | none => exact ⟨df, h, fun _ => rfl, fun v hv => by cases hv⟩
    | some v => exact hv.elim
  | some x =>
    cases va with
    | none => exact hv.elim
    | some v =>
      cases x <;> simp only [bnd] at h
      case i k n =>
        obtain ⟨h1, h2⟩ := cond_some h
        simp only [Bool.and_eq_true, decide_eq_true_eq] at h1
        simp only [OptRep, RepA] at hv
        subst hv
        refine ⟨n.toNat, h2, (by intro e; cases e), fun v' hv' => ?_⟩
        cases hv'
        refine ⟨by omega, fun y code hy => ?_⟩
        have : 0 ≤ n ∧ n ≤ (y : Int) := ⟨h1.1, by omega⟩
        simp only [Instr.sliceBound, asIntOf, Sem.run_bind, Sem.run_pure, Result.andThen_ok, this, and_self, if_true]
      all_goals exact absurd h (by simp)
theorem bounds_ok {lo hi : Option AV} {vlo vhi : Option Value} {len cap : Nat} {isS : Bool} {K : Nat → Nat → Option R} {r : R} (hc : len ≤ cap)
    (h : (bnd hi len len fun h => bnd lo 0 h fun a => K h a) = some r) (h1 : OptRep Γ w S σ ob hi vhi) (h2 : OptRep Γ w S σ ob lo vlo) :
    ∃ l h, K h l = some r ∧ l ≤ h ∧ h ≤ len ∧ (lo = none → l = 0) ∧ (Instr.sliceBounds isS len cap vlo vhi none).run Γ.P w = .ok (l, h, cap) w := by
  obtain ⟨n, hn, hd, hr⟩ := bnd_ok h h1
  obtain ⟨m, hm, hd2, hr2⟩ := bnd_ok hn h2
  cases vhi with
  | none =>
    cases hi with
    | some _ => exact h1.elim
    | none =>
      obtain rfl := hd rfl
      cases vlo with
      | none =>
        cases lo with
        | some _ => exact h2.elim
        | none =>
          obtain rfl := hd2 rfl
          exact ⟨_, _, hm, by omega, by omega, fun _ => rfl, by simp [Instr.sliceBounds]⟩
      | some v =>
        obtain ⟨g1, g2⟩ := hr2 v rfl
        exact ⟨_, _, hm, g1, by omega, hd2, by simp [Instr.sliceBounds, g2 _ _ (Nat.le_refl _)]⟩
  | some vh =>
    obtain ⟨g1, g2⟩ := hr vh rfl
    cases vlo with
    | none =>
      cases lo with
      | some _ => exact h2.elim
      | none =>
        obtain rfl := hd2 rfl
        refine ⟨_, _, hm, by omega, g1, fun _ => rfl, ?_⟩
        simp [Instr.sliceBounds, g2 _ _ hc]
    | some v =>
      obtain ⟨g3, g4⟩ := hr2 v rfl
      refine ⟨_, _, hm, g3, g1, hd2, ?_⟩
      simp [Instr.sliceBounds, g2 _ _ hc, g4 _ _ (Nat.le_refl _)]
theorem extract_list {s : ByteArray} {l h : Nat} : (s.extract l h).data.toList = (s.data.toList.drop l).take (h - l) := by
  rw [ByteArray.data_extract, Array.toList_extract]
theorem bounds3_ok {len cap : Nat} (hcap : len ≤ cap) {lo hi m : Option AV} {vlo : Option Value} {vh vm : Value} {K : Nat → Nat → Option R} {r : R}
    (h : (bnd m 0 len fun m => bnd hi 0 m fun h => bnd lo 0 h fun a => bif Nat.beq h m then K a h else none) = some r) (h3 : OptRep Γ w S σ ob m (some vm)) (h2 : OptRep Γ w S σ ob hi (some vh)) (h1 : OptRep Γ w S σ ob lo vlo) :
    ∃ l hh, K l hh = some r ∧ (l ≤ hh ∧ (Instr.sliceBounds true len cap vlo (some vh) (some vm)).run Γ.P w = .ok (l, hh, hh) w) ∧ hh ≤ len := by
  obtain ⟨m, hm, _, hr2⟩ := bnd_ok h h3
  obtain ⟨gm, gm2⟩ := hr2 vm rfl
  obtain ⟨hh, hn, _, hr3⟩ := bnd_ok hm h2
  obtain ⟨gh, gh2⟩ := hr3 vh rfl
  obtain ⟨l, hK, hd2, hr4⟩ := bnd_ok hn h1
  obtain ⟨hhm, hK2⟩ := cond_some hK
  obtain rfl := beq_id hhm
  have hl : l ≤ hh ∧ (Instr.sliceBounds true len cap vlo (some vh) (some vm)).run Γ.P w = .ok (l, hh, hh) w := by
    cases vlo with
    | none =>
      cases lo with
      | some _ => exact h1.elim
      | none =>
        obtain rfl := hd2 rfl
        refine ⟨by omega, ?_⟩
        simp [Instr.sliceBounds, gm2 _ _ hcap, gh2 _ _ (Nat.le_refl _)]
    | some v =>
      obtain ⟨g3, g4⟩ := hr4 v rfl
      refine ⟨g3, ?_⟩
      simp [Instr.sliceBounds, gm2 _ _ hcap, gh2 _ _ (Nat.le_refl _), g4 _ _ (Nat.le_refl _)]
  exact ⟨l, hh, hK2, hl, gm⟩
/-- a part of data -/
theorem part_sl (hP : tabOk Γ.P = true) {e : TypeId} {xs : List D} {l h m : Nat} {a : Option Addr} (hl : l ≤ h) (hh : h ≤ xs.length) (hm : h ≤ m) (ha : a = none → m = 0) {sz : Nat} (hsz : sz = Γ.P.cellsOf e)
    (hr : xs = [] ∨ ∃ b o, a = some ⟨b, o, none⟩ ∧ RepRow Γ.P w S xs e b o) :
    RepA Γ.P w S σ ob (.sl e .any ((xs.drop l).take (h - l))) (.slice (if m = l then a else a.map (·.add (l * sz))) (h - l) (m - l)) := by
  subst hsz
  simp only [RepA]
  have hlen : ((xs.drop l).take (h - l)).length = h - l := by simp; omega
  refine ⟨_, _, by rw [hlen], ⟨by omega, fun hn => ?_⟩, ?_⟩
  · by_cases hml : m = l
    · omega
    · rw [if_neg hml] at hn
      have := ha (by simpa using hn)
      omega
  rcases hr with rfl | ⟨b, o, rfl, hr⟩
  · exact .inl (by simp)
  · by_cases hml : m = l
    · exact .inl (by rw [show h - l = 0 by omega]; rfl)
    · rw [if_neg hml]
      exact .inr ⟨b, o + l * Γ.P.cellsOf e, by simp [Addr.add_lit], RepRow.take _ (RepRow.drop _ hr)⟩
/-- likewise, with no room behind it -/
theorem part_cl (hP : tabOk Γ.P = true) {e : TypeId} {xs : List D} {l h : Nat} {a : Option Addr} (hl : l ≤ h) (hh : h ≤ xs.length) (ha : a = none → h = 0) {sz : Nat} (hsz : sz = Γ.P.cellsOf e)
    (hr : xs = [] ∨ ∃ b o, a = some ⟨b, o, none⟩ ∧ RepRow Γ.P w S xs e b o) :
    RepA Γ.P w S σ ob (.sl e .cl ((xs.drop l).take (h - l))) (.slice (if h = l then a else a.map (·.add (l * sz))) (h - l) (h - l)) := by
  have := part_sl (w := w) (S := S) (σ := σ) (ob := ob) hP hl hh (Nat.le_refl _) ha hsz hr
  simp only [RepA] at this ⊢
  have hlen : ((xs.drop l).take (h - l)).length = h - l := by simp; omega
  rw [hlen] at this ⊢
  obtain ⟨a', cap, he, hc, hr'⟩ := this
  cases he
  exact ⟨_, _, rfl, ⟨rfl, hc.2⟩, hr'⟩
/-- (f) cells of a block that no object has are data from now on -/
theorem MemOK.shine {S' : Addr → Prop} (h : MemOK Γ w0 S0 X w S σ ob) {b : Nat} (hX : X b ∨ w0.heap.size ≤ b) (hlt : b < w.heap.size) (hd : ∀ j o, ob[j]? = some (some o) → (σ j).1 ≠ b)
    (hS : ∀ a, S a → S' a) (hS' : ∀ a, S' a → S a ∨ a.block = b) : Trans Γ w0 S0 X w S σ ob w S' σ ob := by
  have hk : Keeps w S w S' := fun a ha => ⟨rfl, hS a ha⟩
  refine ⟨?_, fun a v r => RepA.keep hk (Stays.refl σ ob) a v r, hk⟩
  refine { objs := ?_, apart := h.apart, own := h.own, old := h.old, grow := h.grow, s0 := fun a ha => hS a (h.s0 a ha), snew := ?_, sin := ?_, glob := ?_, env := h.env, kept := h.kept.trans hk, root := h.root }
  · intro i x hx
    refine (h.objs i x hx).keep hk (Stays.refl σ ob) rfl rfl fun y hy hyb => ?_
    rcases hS' y hy with hy | hy
    · exact hy
    · exact absurd (hyb.symm.trans hy) (hd i x hx)
  · intro a ha
    rcases hS' a ha with ha | ha
    · exact h.snew a ha
    · rw [ha]; exact .inr hX
  · intro a ha
    rcases hS' a ha with ha | ha
    · exact h.sin a ha
    · rw [ha]; exact hlt
  · refine ⟨fun g t x hx => ?_, fun g hg => (h.glob.ifs g hg).keep hk⟩
    obtain ⟨vs, h1, h2⟩ := h.glob.data g t x hx
    exact ⟨vs, h1.keep hk, RepT.keep hk _ _ _ h2.1, h2.2⟩
theorem view_addr {b m l s : Nat} : (if m = l then (⟨b, 0, none⟩ : Addr) else (⟨b, 0, none⟩ : Addr).add (l * s)) = ⟨b, if m = l then 0 else l * s, none⟩ := by
  split
  · rfl
  · simp [Addr.add_lit]
/-- a whole array's slice: from now on it is data -/
theorem sliceBox_ok (hP : tabOk Γ.P = true) (hM : MemOK Γ w0 S0 X w S σ ob) {own : Bool} {t : TypeId} {x : AV} {lo hi mx : Option AV} {vx : Value} {vlo vhi vmx : Option Value} {K : AV → Objs → Option R} {r : R}
    (hx : RepA Γ.P w S σ ob x vx) (h1 : OptRep Γ w S σ ob lo vlo) (h2 : OptRep Γ w S σ ob hi vhi) (h3 : OptRep Γ w S σ ob mx vmx) {n : Nat} {e0 : TypeId} (hd : ds Γ.P t = .array n e0) (h : opSlice Γ.P own t x lo hi mx ob K = some r) :
    Out Γ w0 S0 X w S σ ob K r (Instr.sliceAt t vx vlo vhi vmx) := by
  have no : ∀ {a : Option AV} {v : Option Value}, OptRep Γ w S σ ob a v → a = none → v = none := by
    rintro a v ho rfl
    cases v with
    | none => rfl
    | some v => exact ho.elim
  have ht := ds_some hd (by simp)
  obtain ⟨de, he⟩ := elem_array hP ht
  obtain ⟨u1, u2, _, u4⟩ := underId_spec hP ht
  unfold opSlice at h
  rw [hd] at h
  cases x <;> try (simp only at h; exact absurd h (by simp))
  case vp u x =>
    cases x <;> try (simp only at h; exact absurd h (by simp))
    rename_i xs
    simp only at h
    split at h
    · obtain rfl := no h1 rfl
      obtain rfl := no h2 rfl
      obtain rfl := no h3 rfl
      obtain ⟨hb, hK⟩ := cond_some h
      obtain rfl := beq_id hb
      simp only [RepA] at hx
      obtain ⟨b, o, vs, rfl, hc, hrt⟩ := hx
      simp only [RepT] at hrt
      have hfs : xs.length = n ∧ RepFs Γ.P w S xs (List.replicate n e0) vs := by
        rcases hrt with ⟨flds, q, _⟩ | ⟨m, e', q, p1, p2⟩
        · rw [u1] at q; simp at q
        · rw [u1] at q; cases q; exact ⟨p1, p2⟩
      obtain ⟨p1, p2⟩ := hfs
      have hrow' := (RowV.ofFs hP p2 hc.range).under hP he
      have hvl := RepFs.size hP _ _ _ p2
      rw [sumCells_replicate] at hvl
      refine out_same hM hK (cv := .slice (some ⟨b, o, none⟩) n n) ?_ ?_
      · simp [Instr.sliceAt, run_underlying (und_lt ht).2, Instr.sureAddr, Instr.sliceBounds, sizeOf_run he, Addr.add_lit]
      · simp only [RepA]
        refine ⟨_, _, by rw [p1], ⟨rfl, p1.symm⟩, ?_⟩
        cases hxs : xs with
        | nil => exact .inl rfl
        | cons x0 r0 =>
          refine .inr ⟨_, _, rfl, ?_⟩
          rw [← hxs]
          refine RowV.toRep hP (fun k hk1 hk2 => ?_) hrow'
          rw [p1, (underId_spec hP he).2.1] at hk2
          have := (hc (k - o) vs[k - o] (List.getElem?_eq_getElem (by omega))).2
          rwa [show o + (k - o) = k by omega] at this
    · exact absurd h (by simp)
  rename_i j p u
  cases p with
  | cons _ _ => simp only at h; exact absurd h (by simp)
  | nil =>
  simp only at h
  rcases cond_cases h with ⟨_, h9⟩ | ⟨_, h9⟩
  · clear h
    split at h9
    · rename_i tb bx hob
      obtain rfl := no h3 rfl
      obtain ⟨hb, h⟩ := cond_some h9
      obtain rfl := beq_id hb
      simp only [RepA] at hx
      obtain ⟨hl, b, off, rfl, hx⟩ := hx
      obtain ⟨rfl, hoff⟩ := hx _ _ hob
      simp only [offP, u1, Option.map_some, Option.some.injEq, Prod.mk.injEq] at hoff
      obtain ⟨rfl, _⟩ := hoff
      obtain ⟨l, hh, hK, g1, g2, _, hrun⟩ := bounds_ok (isS := false) (K := fun h a => K (.vw (underId Γ.P e0) j a (h - a)) ob) (Nat.le_refl n) h h2 h1
      refine out_same hM hK (cv := .slice (some (if n = l then ⟨(σ j).1, 0, none⟩ else (⟨(σ j).1, 0, none⟩ : Addr).add (l * Γ.P.cellsOf e0))) (hh - l) (n - l)) ?_ ?_
      · simp [Instr.sliceAt, run_underlying (und_lt ht).2, Instr.sureAddr, hrun, sizeOf_run he]
      · simp only [RepA]
        refine ⟨hl, (σ j).1, _, _, by rw [view_addr], fun tj c hc => ?_, fun e' xs' fz' hc => by rw [hob] at hc; cases hc⟩
        rw [hob] at hc
        cases hc
        exact ⟨rfl, n, e0, u1, rfl, fun hn => by rw [if_neg (by omega)], by omega⟩
    · exact absurd h9 (by simp)
  clear h
  split at h9
  · rename_i tb u' xs hob
    obtain rfl := no h1 rfl
    obtain rfl := no h2 rfl
    obtain rfl := no h3 rfl
    obtain ⟨hb, hK⟩ := cond_some h9
    obtain rfl := beq_id hb
    simp only [RepA] at hx
    obtain ⟨hl, b, off, rfl, hx⟩ := hx
    obtain ⟨rfl, hoff⟩ := hx _ _ hob
    simp only [offP, u1, Option.map_some, Option.some.injEq, Prod.mk.injEq] at hoff
    obtain ⟨rfl, _⟩ := hoff
    have hO := hM.objs j _ hob
    simp only [ObjAt] at hO
    obtain ⟨vs, el, fr, hbl, hnf, hel, hlen, hbox, hone, hS⟩ := hO
    obtain ⟨hfit, v, hv, hrep⟩ := hbox
    simp only [RepA] at hrep
    obtain ⟨cs, rfl, hrt, _⟩ := hrep
    have hcs : cs = vs := by simpa [Value.cells] using hv
    subst hcs
    have hu' : u' = underId Γ.P t := by
      simp only [fits, isTy, ds, u1, Option.getD_some] at hfit
      rw [beq_id hfit, u4]
    subst hu'
    simp only [RepT] at hrt
    have hfs : ∃ m e', und Γ.P (underId Γ.P t) = some (.array m e') ∧ xs.length = m ∧ RepFs Γ.P w S xs (List.replicate m e') cs := by
      rcases hrt with ⟨flds, q, _⟩ | q
      · rw [u1] at q; simp at q
      · exact q
    obtain ⟨m, e', q1, q2, q3⟩ := hfs
    rw [u1] at q1
    cases q1
    have hown := hM.own j _ hob
    let S' : Addr → Prop := fun y => S y ∨ (y.block = (σ j).1 ∧ y.off < xs.length * Γ.P.cellsOf (underId Γ.P e0) ∧ y.spot = none)
    have t1 := hM.kill j
    have t2 := t1.1.shine (S' := S') (b := (σ j).1) hown.1 hown.2 (fun k o hk => by
      obtain ⟨g1, g2⟩ := get_kill hk
      exact hM.apart k j _ _ g2 hob g1) (fun _ hy => .inl hy) (fun y hy => hy.imp id (·.1))
    have hrow : RowV Γ.P w S xs e0 (σ j).1 0 := RowV.ofFs hP q3 (fun k v hk => by
      simp only [World.cell?, hbl, Nat.zero_add]
      simpa using hk)
    have hrow' : RowV Γ.P w S' xs (underId Γ.P e0) (σ j).1 0 := (RowV.keep t2.keeps (fun _ => rfl) hrow).under hP he
    refine ⟨_, _, hK, .slice (some ⟨(σ j).1, 0, none⟩) n n, w, S', σ, ?_, t1.trans t2, ?_⟩
    · simp [Instr.sliceAt, run_underlying (und_lt ht).2, Instr.sureAddr, Instr.sliceBounds, sizeOf_run he, Addr.add_lit]
    · simp only [RepA]
      refine ⟨_, _, by rw [q2], ⟨rfl, q2.symm⟩, ?_⟩
      cases hxs : xs with
      | nil => exact .inl rfl
      | cons x0 r0 =>
        refine .inr ⟨_, _, rfl, ?_⟩
        rw [← hxs]
        exact RowV.toRep hP (fun k _ hk => .inr ⟨rfl, by simpa using hk, rfl⟩) hrow'
  · exact absurd h9 (by simp)
theorem slice_ok (hP : tabOk Γ.P = true) (hM : MemOK Γ w0 S0 X w S σ ob) {own : Bool} {t : TypeId} {x : AV} {lo hi mx : Option AV} {vx : Value} {vlo vhi vmx : Option Value} {K : AV → Objs → Option R} {r : R}
    (hx : RepA Γ.P w S σ ob x vx) (h1 : OptRep Γ w S σ ob lo vlo) (h2 : OptRep Γ w S σ ob hi vhi) (h3 : OptRep Γ w S σ ob mx vmx) (hna : ∀ n e, ds Γ.P t ≠ .array n e) (h : opSlice Γ.P own t x lo hi mx ob K = some r) :
    Out Γ w0 S0 X w S σ ob K r (Instr.slice t vx vlo vhi vmx) := by
  have nomax : mx = none → vmx = none := by rintro rfl; cases vmx with | none => rfl | some v => exact h3.elim
  unfold opSlice at h
  split at h
  · rename_i l hd
    split at h
    · obtain rfl := nomax rfl
      simp only [RepA] at hx
      obtain ⟨s, rfl, rfl⟩ := hx
      rw [← size_len] at h
      obtain ⟨a, b, hK, g1, g2, _, hrun⟩ := bounds_ok (isS := false) (Nat.le_refl _) h h2 h1
      rw [← extract_list] at hK
      refine out_same hM hK (cv := .string (s.extract a b)) ?_ repS
      simp [Instr.slice, run_underlying (und_lt (ds_some hd (by simp))).2, hrun]
    · exact absurd h (by simp)
  · rename_i e0 hd
    have hs := ds_some hd (by simp)
    obtain ⟨d, he⟩ := elem_slice hP hs
    split at h
    · obtain rfl := nomax rfl
      simp only [RepA] at hx
      subst hx
      obtain ⟨a, b, hK, g1, g2, _, hrun⟩ := bounds_ok (isS := true) (Nat.le_refl _) h h2 h1
      have ha : a = 0 := by omega
      have hb : b = 0 := by omega
      subst ha; subst hb
      refine out_same hM hK (cv := .slice none 0 0) ?_ (by simp only [RepA])
      simp [Instr.slice, run_underlying (und_lt hs).2, hrun, sizeOf_run he]
    · exact absurd h (by simp)
  · rename_i e0 e c xs hd
    have hs := ds_some hd (by simp)
    obtain ⟨d, he⟩ := elem_slice hP hs
    obtain ⟨u1, u2, _, u4⟩ := underId_spec hP he
    obtain ⟨hb, h9⟩ := cond_some h
    obtain rfl := beq_id hb
    clear h
    simp only [RepA] at hx
    obtain ⟨a, cap, rfl, hc, hr⟩ := hx
    have hcap : xs.length ≤ cap := by cases c <;> simp only [CapOK] at hc <;> omega
    split at h9
    · obtain rfl := nomax rfl
      obtain ⟨l, h, hK, g1, g2, _, hrun⟩ := bounds_ok (isS := true) hcap h9 h2 h1
      refine out_same hM hK ?_ (part_sl hP g1 g2 (Nat.le_trans g2 hcap) hc.nc u2.symm hr)
      simp [Instr.slice, run_underlying (und_lt hs).2, hrun, sizeOf_run he]
    · rename_i m
      split at h9
      · rename_i hi
        cases vmx with
        | none => exact h3.elim
        | some vm =>
        cases vhi with
        | none => exact h2.elim
        | some vh =>
          obtain ⟨l, hh, hK, hl, gm⟩ := bounds3_ok hcap h9 h3 h2 h1
          refine out_same hM hK ?_ (part_cl hP hl.1 gm (fun hn => by have := hc.nc hn; omega) u2.symm hr)
          simp [Instr.slice, run_underlying (und_lt hs).2, hl.2, sizeOf_run he]
      · exact absurd h9 (by simp)
  · rename_i e0 e j hd
    have hs := ds_some hd (by simp)
    obtain ⟨d, he⟩ := elem_slice hP hs
    obtain ⟨u1, u2, _, u4⟩ := underId_spec hP he
    obtain ⟨hb, h9⟩ := cond_some h
    obtain rfl := beq_id hb
    clear h
    split at h9
    · rename_i e1 xs fz hob
      obtain rfl := nomax rfl
      have hx0 := hx
      simp only [RepA] at hx
      obtain ⟨_, b, n, cap, rfl, ha⟩ := hx
      obtain ⟨rfl, rfl, rfl, rfl⟩ := ha _ _ _ hob
      have hO := hM.objs j _ hob
      have hO' := hO
      simp only [ObjAt] at hO
      obtain ⟨cs, el, fr, hb, hnf, hcs, hle, hrow, hel, hS⟩ := hO
      have hown := hM.own j _ hob
      rcases cond_cases h9 with ⟨_, h⟩ | ⟨_, h⟩
      · split at h
        · obtain ⟨l, hh, hK, g1, g2, hl0, hrun⟩ := bounds_ok (isS := true) (lo := none) (K := fun h _ => K (.ref (underId Γ.P e0) ob.length) (ob.set j none ++ [some (.arr (underId Γ.P e0) (xs.take h) false)])) hle h h2 h1
          obtain rfl := hl0 rfl
          have t1 := hM.kill j
          have t2 := t1.1.add (o := .arr (underId Γ.P e0) (xs.take hh) false) (b := (σ j).1) (c := (σ j).2) hown.2 hown.1 (fun k o hk => by
            obtain ⟨h1, h2⟩ := get_kill hk
            exact hM.apart k j _ _ h2 hob h1) (by
            simp only [ObjAt, more_new]
            refine ⟨cs, el, fr, hb, hnf, hcs, by rw [List.length_take]; omega, RowV.take _ hrow, hel, fun y hy hyb => ?_⟩
            have := (hS y hy hyb).1
            simp at this)
          rw [List.length_set] at t2
          refine ⟨_, _, hK, .slice (some ⟨(σ j).1, 0, none⟩) hh (σ j).2, w, S, _, ?_, t1.trans t2, ?_⟩
          · simp [Instr.slice, run_underlying (und_lt hs).2, hrun, sizeOf_run he, Addr.add_lit]
          · simp only [RepA]
            refine ⟨by simp, (σ j).1, _, _, rfl, fun e' xs' fz' hc => ?_⟩
            rcases get_more hc with ⟨hl, _⟩ | ⟨_, he'⟩
            · rw [List.length_set] at hl; omega
            · cases he'
              rw [more_new, List.length_take, Nat.min_eq_left g2]
              exact ⟨rfl, rfl, rfl, rfl⟩
        · rename_i lo'
          obtain ⟨l, hh, hK, g1, g2, _, hrun⟩ := bounds_ok (isS := true) (lo := some lo') (K := fun h a => K (.vw (underId Γ.P e0) j a (h - a)) ob) hle h h2 h1
          refine out_same hM hK (cv := .slice (some (if (σ j).2 = l then ⟨(σ j).1, 0, none⟩ else (⟨(σ j).1, 0, none⟩ : Addr).add (l * Γ.P.cellsOf e0))) (hh - l) ((σ j).2 - l)) ?_ ?_
          · simp [Instr.slice, run_underlying (und_lt hs).2, hrun, sizeOf_run he]
            split <;> rfl
          · simp only [RepA]
            refine ⟨lt_of_get hob, (σ j).1, _, _, by rw [view_addr], fun tj c hc => (by rw [hob] at hc; cases hc), fun e' xs' fz' hc => ?_⟩
            rw [hob] at hc
            cases hc
            exact ⟨rfl, rfl, fun hn => by rw [if_neg (by omega), u2], by omega⟩
        · exact absurd h (by simp)
      · obtain ⟨l, hh, hK, g1, g2, _, hrun⟩ := bounds_ok (isS := true) hle h h2 h1
        obtain ⟨S', t1, hr1⟩ := frz_ok hP hM (a := .ref (underId Γ.P e0) j) (a' := .sl (underId Γ.P e0) .any xs) (ob' := ob.set j (some (.arr (underId Γ.P e0) xs true))) (by simp only [frz, hob]) hx0
        simp only [RepA] at hr1
        obtain ⟨a, cap, hv, _, hr⟩ := hr1
        cases hv
        refine ⟨_, _, hK, _, w, S', σ, ?_, t1, part_sl hP g1 g2 (Nat.le_trans g2 hle) (fun hn => by simp at hn) u2.symm hr⟩
        simp [Instr.slice, run_underlying (und_lt hs).2, hrun, sizeOf_run he]
    · rename_i e1 xs fz m hob
      have hx0 := hx
      simp only [RepA] at hx
      obtain ⟨_, b, n, cap, rfl, ha⟩ := hx
      obtain ⟨rfl, rfl, rfl, rfl⟩ := ha _ _ _ hob
      have hO := hM.objs j _ hob
      simp only [ObjAt] at hO
      obtain ⟨cs, el, fr, hb, hnf, hcs, hle, hrow, hel, hS⟩ := hO
      split at h9
      · rename_i hi
        cases vmx with
        | none => exact h3.elim
        | some vm =>
        cases vhi with
        | none => exact h2.elim
        | some vh =>
          obtain ⟨l, hh, hK, hl, gm⟩ := bounds3_ok hle h9 h3 h2 h1
          obtain ⟨S', t1, hr1⟩ := frz_ok hP hM (a := .ref (underId Γ.P e0) j) (a' := .sl (underId Γ.P e0) .any xs) (ob' := ob.set j (some (.arr (underId Γ.P e0) xs true))) (by simp only [frz, hob]) hx0
          simp only [RepA] at hr1
          obtain ⟨a, cap, hv, _, hr⟩ := hr1
          cases hv
          refine ⟨_, _, hK, _, w, S', σ, ?_, t1, part_cl hP hl.1 gm (fun hn => by simp at hn) u2.symm hr⟩
          simp [Instr.slice, run_underlying (und_lt hs).2, hl.2, sizeOf_run he]
      · exact absurd h9 (by simp)
    · exact absurd h9 (by simp)
  · rename_i hd; exact absurd hd (hna _ _)
  · rename_i hd; exact absurd hd (hna _ _)
  · exact absurd h (by simp)
/-! ### conversions -/
theorem modify_push {α : Type} (h : Array α) (x : α) (f : α → α) : (h.push x).modify h.size f = h.push (f x) := by
  apply Array.ext_getElem?
  intro i
  simp only [Array.getElem?_modify, Array.getElem?_push]
  by_cases hi : h.size = i
  · subst hi; simp
  · have : ¬ i = h.size := fun e => hi e.symm
    simp [hi, this]
def bytesRow (s : ByteArray) (cap : Nat) : Array Value := (s.data.map fun (b : UInt8) => Value.int .u8 b.toNat) ++ Array.replicate (cap - s.size) (.int .u8 0)
theorem toBytes_run {e : TypeId} {s : ByteArray} : (Conv.stringToBytes e s).run Γ.P w = .ok (.slice (some ⟨w.heap.size, 0, none⟩) s.size (grownCap w s.size 0 e))
    { w.drew with heap := w.heap.push (.cells (bytesRow s (grownCap w s.size 0 e)) e ((bytesRow s (grownCap w s.size 0 e)).size, (bytesRow s (grownCap w s.size 0 e)).size + 1)) } := by
  have hq : (Question.appendCap s.size 0 e).forced = false := rfl
  simp only [Conv.stringToBytes, Sem.run_bind, run_choose, hq, Bool.false_eq_true, if_false, Result.andThen_ok, newRow, newObj, markStringish, Sem.run_pure]
  simp only [Sem.run, Result.andThen_ok, Sem.run_bind, run_shape, World.shape?, Array.getElem?_push_size, run_freeze, World.freeze]
  simp only [Nat.one_ne_zero, if_false, Array.size_push, modify_push, Sem.run_pure, beq_self_eq_true, if_true, Result.andThen_ok]
  rfl
theorem unBytes_spec : ∀ {xs : List D} {l : List UInt8} {n : Nat} {e : TypeId} {vs : List Value}, RepFs Γ.P w S xs (List.replicate n e) vs → unBytes xs = some l →
    ∃ ns : List Int, vs = ns.map (Value.int .u8) ∧ l = ns.map fun n => UInt8.ofNat n.toNat
  | [], l, n, e, vs, h, hu => by
    simp only [unBytes] at hu; cases hu
    simp only [RepFs] at h
    exact ⟨[], by simp [h.2], rfl⟩
  | .int k m :: r, l, 0, e, vs, h, hu => by simp [RepFs] at h
  | .int k m :: r, l, n + 1, e, vs, h, hu => by
    cases k <;> simp only [unBytes] at hu
    case u8 =>
      simp only [List.replicate_succ, RepFs] at h
      obtain ⟨t, ts', v1, v2, h1, rfl, h3, h4⟩ := h
      cases h1
      simp only [RepT] at h3
      obtain ⟨l', hl', rfl⟩ := Option.map_eq_some_iff.1 hu
      obtain ⟨ns, rfl, rfl⟩ := unBytes_spec h4 hl'
      exact ⟨m :: ns, by simp [h3.2], rfl⟩
    all_goals exact absurd hu (by simp)
  | .bool _ :: r, l, n, e, vs, h, hu => by simp [unBytes] at hu
  | .str _ :: r, l, n, e, vs, h, hu => by simp [unBytes] at hu
  | .slice _ _ :: r, l, n, e, vs, h, hu => by simp [unBytes] at hu
  | .agg _ :: r, l, n, e, vs, h, hu => by simp [unBytes] at hu
theorem foldl_push (ns : List Int) : ∀ (s : ByteArray), (ns.foldl (fun r n => r.push (UInt8.ofNat n.toNat)) s).data.toList = s.data.toList ++ ns.map fun n => UInt8.ofNat n.toNat := by
  induction ns with
  | nil => intro s; simp
  | cons n r ih => intro s; rw [List.foldl_cons, ih]; simp [ByteArray.push]
theorem freeze_heap (a : Addr) (n b : Nat) (hb : b ≠ a.block) : (w.freeze a n).heap[b]? = w.heap[b]? := by
  unfold World.freeze
  split
  · rfl
  · simp only [Array.getElem?_modify]
    rw [if_neg (fun e => hb e.symm)]
theorem freeze_size (a : Addr) (n : Nat) : (w.freeze a n).heap.size = w.heap.size := by
  unfold World.freeze
  split
  · rfl
  · simp
theorem freeze_whole (a : Addr) (n : Nat) {b k : Nat} (h : Whole w b k) : Whole (w.freeze a n) b k := by
  obtain ⟨cs, el, fr, h1, h2⟩ := h
  by_cases hb : b = a.block
  · subst hb
    unfold World.freeze
    split
    · exact ⟨cs, el, fr, h1, h2⟩
    · obtain ⟨lo, hi⟩ := fr
      exact ⟨cs, el, _, by simp only [Array.getElem?_modify, if_true, h1]; rfl, h2⟩
  · exact ⟨cs, el, fr, (freeze_heap a n b hb).trans h1, h2⟩
theorem freeze_env (a : Addr) (n : Nat) : (w.freeze a n).os = w.os ∧ (w.freeze a n).output = w.output := by
  unfold World.freeze
  split <;> exact ⟨rfl, rfl⟩
theorem freeze_cell (a : Addr) (n : Nat) (x : Addr) : (w.freeze a n).cell? x = w.cell? x := by
  unfold World.freeze
  split
  · rfl
  · unfold World.cell?
    simp only [Array.getElem?_modify]
    by_cases hb : a.block = x.block
    · rw [if_pos hb]
      cases w.heap[x.block]? with
      | none => rfl
      | some o => cases o <;> rfl
    · rw [if_neg hb]
theorem convert_ok (hP : tabOk Γ.P = true) (hM : MemOK Γ w0 S0 X w S σ ob) {own : Bool} {src dst : TypeId} {x : AV} {vx : Value} {K : AV → Objs → Option R} {r : R} (hx : RepA Γ.P w S σ ob x vx)
    (h : opConvert Γ.P own src dst x ob K = some r) : Out Γ w0 S0 X w S σ ob K r (convert src dst vx) := by
  unfold opConvert at h
  split at h
  · exact absurd h (by simp)
  · rename_i sd hsd
    have hu := (und_lt hsd).2
    have back : ∀ {e : TypeId} {xs : List D} (x : AV), ds Γ.P dst = .string → und Γ.P src = some (.slice e) → ds Γ.P e = .int .u8 → RepA Γ.P w S σ ob x vx → (∀ l, x = .s l → False) →
        elems Γ.P (underId Γ.P e) ob x = some xs → kBytes xs (fun l => K (.s l) ob) = some r → Out Γ w0 S0 X w S σ ob K r (convert src dst vx) := by
      intro e xs x hd hs he hx hns hel hk
      have he := ds_some he (by simp)
      have hd := (und_lt (ds_some hd (by simp))).2
      obtain ⟨news, hsrc, hfs⟩ := src_ok hP hM (tx := src) he (.inl ⟨_, (und_lt hs).2⟩) hel hx
      unfold kBytes at hk
      cases hb : unBytes xs with
      | none => simp [hb] at hk
      | some l =>
        rw [hb] at hk
        simp only at hk
        obtain ⟨ns, rfl, rfl⟩ := unBytes_spec hfs hb
        obtain ⟨a, n, c, rfl, hn⟩ : ∃ a n c, vx = .slice a n c ∧ n = xs.length := by
          cases x <;> simp only [elems] at hel
          case snil => cases hel; simp only [RepA] at hx; exact ⟨_, _, _, hx, rfl⟩
          case sl e' c xs =>
            obtain ⟨_, h2⟩ := cond_some hel
            cases h2; simp only [RepA] at hx; obtain ⟨b, cap, rfl, _⟩ := hx; exact ⟨_, _, _, rfl, rfl⟩
          case ref e' j =>
            obtain ⟨_, h2⟩ := cond_some hel
            split at h2
            · rename_i e1 xs fz hob
              cases h2
              simp only [RepA] at hx
              obtain ⟨_, b, m, cap, rfl, hq⟩ := hx
              obtain ⟨rfl, rfl, rfl, rfl⟩ := hq _ _ _ hob
              exact ⟨_, _, _, rfl, rfl⟩
            · exact absurd h2 (by simp)
          case s l => exact (hns l rfl).elim
          all_goals exact absurd hel (by simp)
        subst hn
        have hcells := hsrc.cells
        have hc1 := cells_int hP he
        refine out_same hM hk (cv := .string (ns.foldl (fun r n => r.push (UInt8.ofNat n.toNat)) ByteArray.empty)) ?_ (by
          simp only [RepA]; exact ⟨_, by rw [foldl_push]; rfl, rfl⟩)
        rw [run_convert_bytes_string w src dst e _ _ _ (und_lt hs).2 (und_lt he).2 hd]
        cases a with
        | none =>
          simp only [run_firstCells_none] at hcells
          have : ns = [] := by cases ns with | nil => rfl | cons a r => simp at hcells
          subst this
          rfl
        | some a =>
          simp only [Builtin.firstCells, hc1, Nat.mul_one] at hcells
          exact run_bytesToString w a _ _ ns hcells
    split at h
    · rename_i k k' n hd
      have hd := (und_lt (ds_some hd (by simp))).2
      simp only [RepA] at hx; subst hx
      refine out_same hM h (cv := .int k (k.wrap n)) ?_ repI
      cases sd <;> simp [convert, run_underlying hu, run_underlying hd, Conv.intToInt]
    · rename_i l hd
      have hd := (und_lt (ds_some hd (by simp))).2
      simp only [RepA] at hx; obtain ⟨s, rfl, rfl⟩ := hx
      refine out_same hM h (cv := .string s) ?_ repS
      cases sd <;> simp [convert, run_underlying hu, run_underlying hd]
    · rename_i e l hd
      have hd := (und_lt (ds_some hd (by simp))).2
      split at h
      · rename_i hde
        have he := ds_some hde (by simp)
        simp only [RepA] at hx; obtain ⟨s, rfl, rfl⟩ := hx
        have hrun : (convert src dst (.string s)).run Γ.P w = (Conv.stringToBytes e s).run Γ.P w := by
          cases sd <;> simp [convert, run_underlying hu, run_underlying hd, run_underlying (und_lt he).2]
        rw [toBytes_run] at hrun
        have hge := grownCap_ge w s.size 0 e
        have hlen : (bytesD s.data.toList).length = s.size := by rw [size_len]; simp [bytesD]
        have hfs := bytesD_fs (w := w) (S := S) he s.data.toList
        rcases cond_cases h with ⟨_, h⟩ | ⟨_, h⟩
        · obtain ⟨σ', t1, hr⟩ := newArr_ok (w' := { w.drew with heap := w.heap.push (.cells (bytesRow s (grownCap w s.size 0 e)) e ((bytesRow s (grownCap w s.size 0 e)).size, (bytesRow s (grownCap w s.size 0 e)).size + 1)) }) (cs := bytesRow s (grownCap w s.size 0 e)) (el := e) (fr := ((bytesRow s (grownCap w s.size 0 e)).size, (bytesRow s (grownCap w s.size 0 e)).size + 1)) hP hM false he rfl (cap := grownCap w s.size 0 e) (by
            unfold bytesRow
            rw [cells_int hP he, Array.size_append, Array.size_map, Array.size_replicate, Nat.mul_one]
            show s.size + _ = _
            omega) (by rw [hlen]; exact hge) hfs (by
              intro j v hj
              unfold bytesRow
              rw [Array.toList_append, List.getElem?_append_left (by simpa using getL hj)]
              simpa using hj) (by intro o ho hh; omega)
          rw [hlen] at hr
          exact ⟨_, _, h, _, _, S, σ', hrun, t1, hr⟩
        · obtain ⟨S', t1, hr⟩ := newData_ok (w' := { w.drew with heap := w.heap.push (.cells (bytesRow s (grownCap w s.size 0 e)) e ((bytesRow s (grownCap w s.size 0 e)).size, (bytesRow s (grownCap w s.size 0 e)).size + 1)) }) (cs := bytesRow s (grownCap w s.size 0 e)) (el := e) (fr := ((bytesRow s (grownCap w s.size 0 e)).size, (bytesRow s (grownCap w s.size 0 e)).size + 1)) hP hM he rfl (c := .any) (cap := grownCap w s.size 0 e) (by simp only [CapOK]; rw [hlen]; exact ⟨hge, fun hn => by simp at hn⟩) hfs (by
              intro j v hj
              unfold bytesRow
              rw [Array.toList_append, List.getElem?_append_left (by simpa using getL hj)]
              simpa using hj)
          rw [hlen] at hr
          exact ⟨_, _, h, _, _, S', σ, hrun, t1, hr⟩
      · exact absurd h (by simp)
    · rename_i e e1 j hd
      have hd := (und_lt (ds_some hd (by simp))).2
      split at h
      · rename_i hde
        have he := ds_some hde (by simp)
        obtain ⟨h1, h5⟩ := cond_some h
        simp only [Bool.and_eq_true] at h1
        obtain rfl := beq_id h1.2
        split at h5
        · rename_i e2 xs fz hob
          obtain ⟨h2, h6⟩ := cond_some h5
          obtain rfl := beq_id h2
          have hf : frz (.ref e2 j) ob = (.sl e2 .any xs, ob.set j (some (.arr e2 xs true))) := by
            simp only [frz, hob]
          obtain ⟨S', t1, hv⟩ := frz_ok hP hM hf hx
          have hO := hM.objs j _ hob
          simp only [ObjAt] at hO
          obtain ⟨cs, el, fr, hb, _⟩ := hO
          simp only [RepA] at hx
          obtain ⟨_, b, n, cap, rfl, hq⟩ := hx
          obtain ⟨_, rfl, rfl, rfl⟩ := hq _ _ _ hob
          have hown := hM.own j _ hob
          have t2 := t1.ok.kill j
          rw [List.set_set] at t2
          have t3 := t2.ok.touch (w' := w.freeze ⟨(σ j).1, cs.size, none⟩ 1) (b := (σ j).1) hown.1 (fun k o hk => by
            obtain ⟨h1, h2⟩ := get_kill hk
            exact hM.apart k j _ _ h2 hob h1) (fun b' hb' => freeze_heap _ _ _ hb') (freeze_size _ _) (fun a ha => ⟨freeze_cell _ _ _, ha⟩) (fun n hn => freeze_whole _ _ hn) (freeze_env _ _)
          have hsh : w.shape? (σ j).1 = some (el, cs.size) := by unfold World.shape?; rw [hb]
          refine ⟨_, _, h6, _, w.freeze ⟨(σ j).1, cs.size, none⟩ 1, S', σ, ?_, (t1.trans t2).trans t3, t3.rep _ _ (t2.rep _ _ hv)⟩
          simp [convert, run_underlying hd, run_underlying (und_lt he).2, markStringish, hsh]
        · exact absurd h5 (by simp)
      · exact absurd h (by simp)
    · rename_i hd
      split at h
      · rename_i e
        split at h
        · rename_i he
          exact back (xs := []) .snil hd hsd he hx (fun l e => by cases e) (by simp only [elems]) h
        · exact absurd h (by simp)
      · exact absurd h (by simp)
    · rename_i x' hd hns hnil
      split at h
      · rename_i e
        split at h
        · rename_i he
          split at h
          · rename_i xs hel
            exact back _ hd hsd he hx hns hel h
          · exact absurd h (by simp)
        · exact absurd h (by simp)
      · exact absurd h (by simp)
    · exact absurd h (by simp)
end
end Go.Proofs.Ytbdekjlnnbjicaa.V

/- Objects are moved: kept at a label, handed on in a call and handed back. -/
namespace Go.Proofs.Ytbdekjlnnbjicaa.V
open Go
set_option linter.unusedVariables false
set_option linter.unusedSimpArgs false

theorem memN_iff {j : Nat} : ∀ {l : List Nat}, memN j l = true ↔ j ∈ l
  | [] => by simp [memN]
  | a :: r => by
    simp only [memN, Bool.or_eq_true, List.mem_cons, memN_iff (l := r)]
    constructor
    · rintro (h | h)
      · exact .inl (beq_id h).symm
      · exact .inr h
    · rintro (h | h)
      · subst h; exact .inl (Nat.beq_refl _)
      · exact .inr h
theorem posN_lt {j : Nat} : ∀ {l : List Nat}, j ∈ l → posN j l < l.length ∧ l[posN j l]? = some j
  | [], h => by cases h
  | a :: r, h => by
    simp only [posN]
    cases hb : Nat.beq a j with
    | true => obtain rfl := beq_id hb; simp
    | false =>
      have hne : a ≠ j := fun e => by subst e; simp at hb
      have hr : j ∈ r := by rcases List.mem_cons.1 h with e | e; exact absurd e.symm hne; exact e
      obtain ⟨h1, h2⟩ := posN_lt hr
      simp only [cond_false, List.length_cons, List.getElem?_cons_succ]
      exact ⟨by omega, h2⟩
theorem nodupN_spec : ∀ {l : List Nat}, nodupN l = true → l.Nodup
  | [], _ => List.nodup_nil
  | a :: r, h => by
    simp only [nodupN, Bool.and_eq_true, Bool.not_eq_true'] at h
    exact List.nodup_cons.2 ⟨fun hm => by rw [memN_iff.2 hm] at h; simp at h, nodupN_spec h.2⟩
theorem allIn_spec {ord : List Nat} : ∀ {l : List Nat}, allIn ord l = true → ∀ j ∈ l, j ∈ ord
  | [], _, j, hj => by cases hj
  | a :: r, h, j, hj => by
    simp only [allIn, Bool.and_eq_true] at h
    rcases List.mem_cons.1 hj with e | e
    · subst e; exact memN_iff.1 h.1
    · exact allIn_spec h.2 j e
theorem allO_spec {ord : List Nat} {ob : Objs} : ∀ {l : List Nat}, allO ord ob l = true → ∀ i ∈ l, ∀ j ∈ idsO (ob.getD i none), j ∈ ord
  | [], _, j, hj => by cases hj
  | a :: r, h, i, hi => by
    simp only [allO, Bool.and_eq_true] at h
    rcases List.mem_cons.1 hi with e | e
    · subst e; exact allIn_spec h.1
    · exact allO_spec h.2 i e

section
variable {P : Program} {w : World} {S : Addr → Prop} {σ σ' : Loc} {ob ob' : Objs} {g : Nat → Nat}

/-- object j has gone to place g j -/
def Moved (σ : Loc) (ob : Objs) (σ' : Loc) (ob' : Objs) (g : Nat → Nat) (j : Nat) : Prop :=
  j < ob.length → g j < ob'.length ∧ σ' (g j) = σ j ∧ ob'[g j]? = some (renO g (ob.getD j none))
theorem fits_ren (t : TypeId) (a : AV) : fits P t (renA g a) = fits P t a := by
  cases a <;> simp only [renA]
  case hp k _ _ _ _ => cases k <;> unfold fits isTy <;> cases ds P t <;> rfl
  all_goals (unfold fits isTy; cases ds P t <;> rfl)
def renB (g : Nat → Nat) : Obj → Obj
  | .box t v => .box t (renA g v)
  | .arr e xs fz => .arr e xs fz
theorem getD_of {j : Nat} {o : Option Obj} (hl : j < ob.length) (h : ob.getD j none = o) : ob[j]? = some o := by
  rw [List.getD_eq_getElem?_getD, List.getElem?_eq_getElem hl] at h
  rw [List.getElem?_eq_getElem hl]
  simpa using h
mutual
theorem RepA.ren : ∀ (a : AV) (v : Value), (∀ j ∈ idsA a, Moved σ ob σ' ob' g j) → RepA P w S σ ob a v → RepA P w S σ' ob' (renA g a) v
  | .undef, v, hm, h => by simp only [renA, RepA]
  | .i _ _, v, hm, h => by simpa only [renA, RepA] using h
  | .b _, v, hm, h => by simpa only [renA, RepA] using h
  | .s _, v, hm, h => by simpa only [renA, RepA] using h
  | .snil, v, hm, h => by simpa only [renA, RepA] using h
  | .sl e cp xs, v, hm, h => by simpa only [renA, RepA] using h
  | .d t x, v, hm, h => by simpa only [renA, RepA] using h
  | .vp t x, v, hm, h => by simpa only [renA, RepA] using h
  | .pnil, v, hm, h => by simpa only [renA, RepA] using h
  | .err _, v, hm, h => by simpa only [renA, RepA] using h
  | .ptr j p t, v, hm, h => by
    simp only [renA, RepA] at h ⊢
    obtain ⟨hl, b, off, hv, h⟩ := h
    obtain ⟨m1, m2, m3⟩ := hm j (by simp [idsA]) hl
    refine ⟨m1, b, off, hv, fun tj c hc => ?_⟩
    rw [m3] at hc
    cases ho : ob.getD j none with
    | none => rw [ho] at hc; simp [renO] at hc
    | some o =>
      rw [ho] at hc
      cases o with
      | box t0 c0 =>
        simp only [renO, Option.some.injEq, Obj.box.injEq] at hc
        obtain ⟨rfl, rfl⟩ := hc
        rw [m2]
        exact h t0 c0 (getD_of hl ho)
      | arr _ _ _ => simp [renO] at hc
  | .ref e j, v, hm, h => by
    simp only [renA, RepA] at h ⊢
    obtain ⟨hl, b, n, cap, hv, h⟩ := h
    obtain ⟨m1, m2, m3⟩ := hm j (by simp [idsA]) hl
    refine ⟨m1, b, n, cap, hv, fun e' xs fz hc => ?_⟩
    rw [m3] at hc
    cases ho : ob.getD j none with
    | none => rw [ho] at hc; simp [renO] at hc
    | some o =>
      rw [ho] at hc
      cases o with
      | box t0 c0 => simp [renO] at hc
      | arr e0 x0 f0 =>
        simp only [renO, Option.some.injEq, Obj.arr.injEq] at hc
        obtain ⟨rfl, rfl, rfl⟩ := hc
        rw [m2]
        exact h _ _ _ (getD_of hl ho)
  | .ap j i p t, v, hm, h => by
    simp only [renA, RepA] at h ⊢
    obtain ⟨hl, b, off, hv, h⟩ := h
    obtain ⟨m1, m2, m3⟩ := hm j (by simp [idsA]) hl
    refine ⟨m1, b, off, hv, fun e' xs fz hc => ?_⟩
    rw [m3] at hc
    cases ho : ob.getD j none with
    | none => rw [ho] at hc; simp [renO] at hc
    | some o =>
      rw [ho] at hc
      cases o with
      | box t0 c0 => simp [renO] at hc
      | arr e0 x0 f0 =>
        simp only [renO, Option.some.injEq, Obj.arr.injEq] at hc
        obtain ⟨rfl, rfl, rfl⟩ := hc
        rw [m2]
        exact h _ _ _ (getD_of hl ho)
  | .hp k d j p t, v, hm, h => by
    simp only [renA, RepA] at h ⊢
    obtain ⟨hl, b, off, hv, h⟩ := h
    obtain ⟨m1, m2, m3⟩ := hm j (by simp [idsA]) hl
    refine ⟨m1, b, off, hv, fun tj c hc => ?_⟩
    rw [m3] at hc
    cases ho : ob.getD j none with
    | none => rw [ho] at hc; simp [renO] at hc
    | some o =>
      rw [ho] at hc
      cases o with
      | box t0 c0 =>
        simp only [renO, Option.some.injEq, Obj.box.injEq] at hc
        obtain ⟨rfl, rfl⟩ := hc
        rw [m2]
        exact h _ _ (getD_of hl ho)
      | arr e0 x0 f0 => simp [renO] at hc
  | .vw e j lo n, v, hm, h => by
    simp only [renA, RepA] at h ⊢
    obtain ⟨hl, b, off, cap, hv, g1, g2⟩ := h
    obtain ⟨m1, m2, m3⟩ := hm j (by simp [idsA]) hl
    refine ⟨m1, b, off, cap, hv, fun tj c hc => ?_, fun e' xs fz hc => ?_⟩
    · rw [m3] at hc
      cases ho : ob.getD j none with
      | none => rw [ho] at hc; simp [renO] at hc
      | some o =>
        rw [ho] at hc
        cases o with
        | box t0 c0 =>
          simp only [renO, Option.some.injEq, Obj.box.injEq] at hc
          obtain ⟨rfl, rfl⟩ := hc
          rw [m2]
          exact g1 _ _ (getD_of hl ho)
        | arr e0 x0 f0 => simp [renO] at hc
    · rw [m3] at hc
      cases ho : ob.getD j none with
      | none => rw [ho] at hc; simp [renO] at hc
      | some o =>
        rw [ho] at hc
        cases o with
        | box t0 c0 => simp [renO] at hc
        | arr e0 x0 f0 =>
          simp only [renO, Option.some.injEq, Obj.arr.injEq] at hc
          obtain ⟨rfl, rfl, rfl⟩ := hc
          rw [m2]
          exact g2 _ _ _ (getD_of hl ho)
  | .fn f caps, v, hm, h => by
    simp only [renA, RepA] at h ⊢
    obtain ⟨cs, h1, h2⟩ := h
    exact ⟨cs, h1, RepAs.ren caps cs (by simpa only [idsA] using hm) h2⟩
  | .agg t l, v, hm, h => by
    simp only [renA, RepA] at h ⊢
    obtain ⟨cs, flds, h1, h2, h3⟩ := h
    exact ⟨cs, flds, h1, h2, RepAg.ren l _ cs (by simpa only [idsA] using hm) h3⟩
  | .tuple l, v, hm, h => by
    simp only [renA, RepA] at h ⊢
    obtain ⟨cs, h1, h2⟩ := h
    exact ⟨cs, h1, RepAs.ren l cs (by simpa only [idsA] using hm) h2⟩
theorem RepAs.ren : ∀ (l : List AV) (vs : List Value), (∀ j ∈ idsL l, Moved σ ob σ' ob' g j) → RepAs P w S σ ob l vs → RepAs P w S σ' ob' (renL g l) vs
  | [], vs, hm, h => by simpa only [renL, RepAs] using h
  | a :: r, vs, hm, h => by
    simp only [renL, RepAs] at h ⊢
    simp only [idsL, List.mem_append] at hm
    obtain ⟨v, vs', h1, h2, h3⟩ := h
    exact ⟨v, vs', h1, RepA.ren a v (fun j hj => hm j (.inl hj)) h2, RepAs.ren r vs' (fun j hj => hm j (.inr hj)) h3⟩
theorem RepAg.ren : ∀ (l : List AV) (ts : List TypeId) (vs : List Value), (∀ j ∈ idsL l, Moved σ ob σ' ob' g j) → RepAg P w S σ ob l ts vs → RepAg P w S σ' ob' (renL g l) ts vs
  | [], ts, vs, hm, h => by simpa only [renL, RepAg] using h
  | a :: r, ts, vs, hm, h => by
    simp only [renL, RepAg] at h ⊢
    simp only [idsL, List.mem_append] at hm
    obtain ⟨t, ts', v, vs', h1, h2, h3, h4, h5, h6⟩ := h
    exact ⟨t, ts', v, vs', h1, h2, h3, by rw [fits_ren]; exact h4, RepA.ren a v (fun j hj => hm j (.inl hj)) h5, RepAg.ren r ts' vs' (fun j hj => hm j (.inr hj)) h6⟩
end
theorem ObjAt.ren {j : Nat} {o : Obj} (hj : σ' (g j) = σ j) (hm : ∀ i ∈ idsO (some o), Moved σ ob σ' ob' g i) (h : ObjAt P w S σ ob j o) : ObjAt P w S σ' ob' (g j) (renB g o) := by
  cases o with
  | box t v =>
    simp only [renB, ObjAt, hj] at h ⊢
    obtain ⟨vs, el, fr, h1, h2, h3, h4, ⟨h5, u, h6, h7⟩, h8, h9⟩ := h
    exact ⟨vs, el, fr, h1, h2, h3, h4, ⟨by rw [fits_ren]; exact h5, u, h6, RepA.ren v u (fun i hi => hm i (by simpa only [idsO] using hi)) h7⟩, h8, h9⟩
  | arr e xs fz =>
    simp only [renB, ObjAt, hj] at h ⊢
    exact h
theorem renO_some {g : Nat → Nat} {x : Option Obj} {o : Obj} (h : renO g x = some o) : ∃ o0, x = some o0 ∧ o = renB g o0 := by
  cases x with
  | none => simp [renO] at h
  | some o0 => cases o0 <;> (simp only [renO, Option.some.injEq] at h; exact ⟨_, rfl, by simp only [renB]; exact h.symm⟩)
theorem reach_pre {ob : Objs} : ∀ (n : Nat) (l acc : List Nat), ∃ r, reach ob n l acc = acc ++ r
  | 0, l, acc => ⟨[], by simp [reach]⟩
  | n + 1, [], acc => ⟨[], by simp [reach]⟩
  | n + 1, j :: r, acc => by
    simp only [reach]
    cases memN j acc with
    | true => exact reach_pre n r acc
    | false =>
      obtain ⟨x, hx⟩ := reach_pre (ob := ob) n (idsO (ob.getD j none) ++ r) (acc ++ [j])
      exact ⟨j :: x, by simp only [cond_false]; rw [hx]; simp⟩
theorem clsd_spec {ord ids : List Nat} (h : clsd ob ord ids = true) : ord.Nodup ∧ (∀ j ∈ ids, j ∈ ord) ∧ ∀ i ∈ ord, ∀ j ∈ idsO (ob.getD i none), j ∈ ord := by
  simp only [clsd, Bool.and_eq_true] at h
  exact ⟨nodupN_spec h.1.1, allIn_spec h.1.2, allO_spec h.2⟩

/-- objects in another order -/
theorem move_objs {ord : List Nat} (hnd : ord.Nodup) (hob : ∀ i ∈ ord, ∀ j ∈ idsO (ob.getD i none), j ∈ ord) (ho : ∀ j o, ob[j]? = some (some o) → ObjAt P w S σ ob j o)
    (ha : ∀ j j' o o', ob[j]? = some (some o) → ob[j']? = some (some o') → j ≠ j' → (σ j).1 ≠ (σ j').1) {g : Nat → Nat} (hg : g = fun j => posN j ord) {ob' : Objs} (hob' : ob' = ord.map fun j => renO g (ob.getD j none)) {σ' : Loc} (hσ' : σ' = fun k => σ (ord.getD k 0)) :
    (∀ j ∈ ord, Moved σ ob σ' ob' g j) ∧ (∀ k o', ob'[k]? = some (some o') → ∃ j o, ord[k]? = some j ∧ ob[j]? = some (some o) ∧ o' = renB g o ∧ σ' k = σ j) ∧ (∀ k o', ob'[k]? = some (some o') → ObjAt P w S σ' ob' k o') ∧
    ∀ j j' o o', ob'[j]? = some (some o) → ob'[j']? = some (some o') → j ≠ j' → (σ' j).1 ≠ (σ' j').1 := by
  subst hg
  have hmv : ∀ j ∈ ord, Moved σ ob σ' ob' (fun j => posN j ord) j := fun j hj hl => by
    obtain ⟨h1, h2⟩ := posN_lt hj
    refine ⟨by simpa [hob'] using h1, ?_, ?_⟩
    · simp only [hσ', List.getD_eq_getElem?_getD, h2, Option.getD_some]
    · simp only [hob', List.getElem?_map, h2, Option.map_some]
  have hget : ∀ (k : Nat) (o' : Obj), ob'[k]? = some (some o') → ∃ j o, ord[k]? = some j ∧ ob[j]? = some (some o) ∧ o' = renB (fun j => posN j ord) o ∧ σ' k = σ j := fun k o' hk => by
    simp only [hob', List.getElem?_map] at hk
    obtain ⟨j, hj, hk⟩ := Option.map_eq_some_iff.1 hk
    obtain ⟨o, ho, rfl⟩ := renO_some hk
    have hjl : j < ob.length := by
      rcases Nat.lt_or_ge j ob.length with hl | hl
      · exact hl
      · rw [List.getD_eq_getElem?_getD, List.getElem?_eq_none hl] at ho; simp at ho
    exact ⟨j, o, hj, getD_of hjl ho, rfl, by simp only [hσ', List.getD_eq_getElem?_getD, hj, Option.getD_some]⟩
  refine ⟨hmv, hget, ?_, ?_⟩
  · intro k o' hk
    obtain ⟨j, o, hj, hoj, rfl, hs⟩ := hget k o' hk
    have hjm := List.mem_of_getElem? hj
    have hpk : posN j ord = k := by
      obtain ⟨h1, h2⟩ := posN_lt hjm
      exact (List.getElem?_inj h1 hnd).1 (h2.trans hj.symm)
    have := (ho j o hoj).ren (σ' := σ') (ob' := ob') (g := fun j => posN j ord) (by simp only [hpk]; exact hs) (fun i hi => hmv i (hob j hjm i (by
      have : ob.getD j none = some o := by rw [List.getD_eq_getElem?_getD, hoj]; rfl
      rw [this]; exact hi)))
    simpa only [hpk] using this
  · intro k k' o1 o2 h1 h2 hne
    obtain ⟨j, o, hj, hoj, _, hs⟩ := hget k o1 h1
    obtain ⟨j', o', hj', hoj', _, hs'⟩ := hget k' o2 h2
    rw [hs, hs']
    refine ha j j' o o' hoj hoj' fun e => hne ?_
    subst e
    have hl : k < ord.length := (List.getElem?_eq_some_iff.1 hj).1
    exact (List.getElem?_inj hl hnd).1 (hj.trans hj'.symm)
end

section
variable {Γ : Ctx} {w0 : World} {S0 : Addr → Prop} {X : XB} {w w' : World} {S S' : Addr → Prop} {σ σ' : Loc} {ob ob' : Objs}

/-- the objects of a call: the callee's own blocks -/
def subX (σ : Loc) (ob : Objs) (ord rts : List Nat) : XB := ⟨rts.map σ, fun b => ∃ j o, j ∈ ord ∧ ob[j]? = some (some o) ∧ (σ j).1 = b, []⟩
/-- what a callee is handed -/
theorem sub_ok (hM : MemOK Γ w0 S0 X w S σ ob) {ord rts : List Nat} (hnd : ord.Nodup) (hob : ∀ i ∈ ord, ∀ j ∈ idsO (ob.getD i none), j ∈ ord) (hpre : ∃ r, ord = rts ++ r) :
    MemOK Γ w S (subX σ ob ord rts) w S (fun k => σ (ord.getD k 0)) (ord.map fun j => renO (fun j => posN j ord) (ob.getD j none)) ∧
    ∀ j ∈ ord, Moved σ ob (fun k => σ (ord.getD k 0)) (ord.map fun j => renO (fun j => posN j ord) (ob.getD j none)) (fun j => posN j ord) j := by
  obtain ⟨h1, h2, h3, h4⟩ := move_objs hnd hob hM.objs hM.apart rfl rfl rfl
  refine ⟨{ objs := h3, apart := h4, own := ?_, old := fun _ _ _ => rfl, grow := Nat.le_refl _, s0 := fun _ h => h, snew := fun _ h => .inl h, sin := hM.sin, glob := hM.glob, env := ⟨rfl, rfl⟩, kept := Keeps.refl w S, root := ?_ }, h1⟩
  · intro k o' hk
    obtain ⟨j, o, hj, hoj, _, hs⟩ := h2 k o' hk
    rw [hs]
    exact ⟨.inl ⟨j, o, List.mem_of_getElem? hj, hoj, rfl⟩, (hM.own j o hoj).2⟩
  · intro k p hk
    obtain ⟨r, rfl⟩ := hpre
    simp only [subX, List.getElem?_map] at hk
    obtain ⟨j, hj, rfl⟩ := Option.map_eq_some_iff.1 hk
    have hl : k < rts.length := (List.getElem?_eq_some_iff.1 hj).1
    refine ⟨by simp; omega, ?_⟩
    rw [List.getD_eq_getElem?_getD, List.getElem?_append_left hl, hj]; rfl

theorem kill_len (ob : Objs) : ∀ l : List Nat, (killAll ob l).length = ob.length
  | [] => rfl
  | j :: r => by simp [killAll, kill_len ob r]
theorem kill_get {ob : Objs} {j : Nat} : ∀ {l : List Nat}, j ∉ l → (killAll ob l)[j]? = ob[j]?
  | [], _ => rfl
  | a :: r, h => by
    simp only [List.mem_cons, not_or] at h
    simp only [killAll]
    rw [List.getElem?_set_ne (fun e => h.1 e.symm), kill_get h.2]
theorem kill_in {ob : Objs} {j : Nat} (hj : j < ob.length) : ∀ {l : List Nat}, j ∈ l → (killAll ob l)[j]? = some none
  | a :: r, h => by
    simp only [killAll]
    by_cases e : a = j
    · subst e; rw [List.getElem?_set_self (by rw [kill_len]; exact hj)]
    · rw [List.getElem?_set_ne e]
      exact kill_in hj (by rcases List.mem_cons.1 h with h | h; exact absurd h.symm e; exact h)
theorem put_len (g : Nat → Nat) : ∀ (ob : Objs) (l : List Nat) (os : Objs), (putRoots g ob l os).length = ob.length
  | ob, [], os => by simp [putRoots]
  | ob, j :: r, [] => by simp [putRoots]
  | ob, j :: r, o :: os => by simp [putRoots, put_len g _ r os]
theorem put_get {g : Nat → Nat} {j : Nat} : ∀ {ob : Objs} {l : List Nat} {os : Objs}, j ∉ l → (putRoots g ob l os)[j]? = ob[j]?
  | ob, [], os, _ => by simp [putRoots]
  | ob, a :: r, [], _ => by simp [putRoots]
  | ob, a :: r, o :: os, h => by
    simp only [List.mem_cons, not_or] at h
    simp only [putRoots]
    rw [put_get h.2, List.getElem?_set_ne (fun e => h.1 e.symm)]
theorem put_in {g : Nat → Nat} {j : Nat} {o : Option Obj} : ∀ {ob : Objs} {l : List Nat} {os : Objs} {i : Nat}, l.Nodup → l[i]? = some j → os[i]? = some o → j < ob.length → (putRoots g ob l os)[j]? = some (renO g o)
  | ob, [], os, i, _, h, _, _ => by simp at h
  | ob, a :: r, [], i, _, _, h, _ => by simp at h
  | ob, a :: r, x :: os, 0, hn, h1, h2, hl => by
    simp only [List.getElem?_cons_zero, Option.some.injEq] at h1 h2
    subst h1; subst h2
    simp only [putRoots]
    rw [put_get (List.nodup_cons.1 hn).1, List.getElem?_set_self hl]
  | ob, a :: r, x :: os, i + 1, hn, h1, h2, hl => by
    simp only [List.getElem?_cons_succ] at h1 h2
    simp only [putRoots]
    exact put_in (List.nodup_cons.1 hn).2 h1 h2 (by simpa using hl)
/-- objects of one kind and length -/
def SameKind : Obj → Obj → Prop
  | .box t _, .box t' _ => t = t'
  | .arr e xs _, .arr e' xs' _ => e = e' ∧ xs.length = xs'.length
  | _, _ => False
theorem SameKind.ren (g : Nat → Nat) {o o' : Obj} (h : SameKind o o') : SameKind o (renB g o') := by
  cases o <;> cases o' <;> exact h
theorem sameObj_spec {x : Option (Option Obj)} {o' : Obj} (h : sameObj x o' = true) : ∃ o, x = some (some o) ∧ SameKind o o' := by
  unfold sameObj at h
  split at h
  · exact ⟨_, rfl, beq_id h⟩
  · simp only [Bool.and_eq_true] at h
    exact ⟨_, rfl, beq_id h.1, beq_id h.2⟩
  · exact absurd h (by simp)
theorem same_spec {ob : Objs} : ∀ {l : List Nat} {os : Objs}, sameBoxes ob l os = true → l.length ≤ os.length ∧ ∀ (i j : Nat), l[i]? = some j → ∃ o o', ob[j]? = some (some o) ∧ os[i]? = some (some o') ∧ SameKind o o'
  | [], os, _ => ⟨by simp, fun i j h => by simp at h⟩
  | a :: r, [], h => by simp [sameBoxes] at h
  | a :: r, none :: os, h => by simp [sameBoxes] at h
  | a :: r, some o' :: os, h => by
    simp only [sameBoxes, Bool.and_eq_true] at h
    obtain ⟨g1, g2⟩ := same_spec h.2
    refine ⟨by simp; omega, fun i j hi => ?_⟩
    cases i with
    | zero =>
      simp only [List.getElem?_cons_zero, Option.some.injEq] at hi
      subst hi
      obtain ⟨o, h1, h2⟩ := sameObj_spec h.1
      exact ⟨o, o', h1, rfl, h2⟩
    | succ i => simpa using g2 i j (by simpa using hi)

/-- what a callee hands back -/
theorem back_ok (hM : MemOK Γ w0 S0 X w S σ ob) {ord rts : List Nat} (hnd : ord.Nodup) (hpre : ∃ r, ord = rts ++ r) {obs : Objs} {σ2 : Loc} (hM2 : MemOK Γ w S (subX σ ob ord rts) w' S' σ2 obs) (hk : Keeps w S w' S')
    (hsame : sameBoxes ob rts obs = true) :
    ∃ σ'', Trans Γ w0 S0 X w S σ ob w' S' σ'' (putRoots (backN rts ob.length) (killAll ob ord) rts obs ++ (obs.drop rts.length).map (renO (backN rts ob.length))) ∧
      ∀ a v, RepA Γ.P w' S' σ2 obs a v → RepA Γ.P w' S' σ'' (putRoots (backN rts ob.length) (killAll ob ord) rts obs ++ (obs.drop rts.length).map (renO (backN rts ob.length))) (renA (backN rts ob.length) a) v := by
  obtain ⟨hle, hbox⟩ := same_spec hsame
  generalize hg : backN rts ob.length = g
  generalize hob2 : putRoots g (killAll ob ord) rts obs ++ (obs.drop rts.length).map (renO g) = ob2
  let σ'' : Loc := fun j => if j < ob.length then σ j else σ2 (rts.length + (j - ob.length))
  have hrin : ∀ j ∈ rts, j ∈ ord := fun j hj => by obtain ⟨r, rfl⟩ := hpre; simp [hj]
  have hrnd : rts.Nodup := by obtain ⟨r, rfl⟩ := hpre; exact (List.nodup_append.1 hnd).1
  have hlen1 : (putRoots g (killAll ob ord) rts obs).length = ob.length := by rw [put_len, kill_len]
  have hlen2 : ob2.length = ob.length + (obs.length - rts.length) := by rw [← hob2]; simp [hlen1]
  have hrl : ∀ i j, rts[i]? = some j → j < ob.length := fun i j h => by obtain ⟨o, o', h1, _⟩ := hbox i j h; exact lt_of_get h1
  have gr : ∀ i j, rts[i]? = some j → g i = j := fun i j h => by rw [← hg]; simp only [backN, h]
  have gn : ∀ i, rts.length ≤ i → g i = ob.length + (i - rts.length) := fun i h => by rw [← hg]; simp only [backN, List.getElem?_eq_none h]
  have hold : ∀ j, j < ob.length → σ'' j = σ j := fun j h => by simp only [σ'', if_pos h]
  -- places
  have pNot : ∀ j, j < ob.length → j ∉ ord → ob2[j]? = ob[j]? := fun j hl hj => by
    rw [← hob2, List.getElem?_append_left (by rw [hlen1]; exact hl), put_get (fun h => hj (hrin j h)), kill_get hj]
  have pKill : ∀ j, j < ob.length → j ∈ ord → j ∉ rts → ob2[j]? = some none := fun j hl hj hr => by
    rw [← hob2, List.getElem?_append_left (by rw [hlen1]; exact hl), put_get hr, kill_in hl hj]
  have pNew : ∀ i, i < obs.length → g i < ob2.length ∧ ob2[g i]? = some (renO g (obs.getD i none)) := fun i hi => by
    have hgd : obs[i]? = some (obs.getD i none) := by rw [List.getD_eq_getElem?_getD, List.getElem?_eq_getElem hi]; rfl
    rcases Nat.lt_or_ge i rts.length with hr | hr
    · obtain ⟨j, hj⟩ : ∃ j, rts[i]? = some j := ⟨_, List.getElem?_eq_getElem hr⟩
      have hjl := hrl i j hj
      rw [gr i j hj]
      refine ⟨by omega, ?_⟩
      rw [← hob2, List.getElem?_append_left (by rw [hlen1]; exact hjl)]
      exact put_in hrnd hj hgd (by rw [kill_len]; exact hjl)
    · rw [gn i hr]
      refine ⟨by omega, ?_⟩
      rw [← hob2, List.getElem?_append_right (by rw [hlen1]; omega), hlen1, List.getElem?_map, List.getElem?_drop]
      rw [show rts.length + (ob.length + (i - rts.length) - ob.length) = i by omega, hgd]; rfl
  have hmv : ∀ i, Moved σ2 obs σ'' ob2 g i := fun i hi => by
    obtain ⟨h1, h2⟩ := pNew i hi
    refine ⟨h1, ?_, h2⟩
    rcases Nat.lt_or_ge i rts.length with hr | hr
    · obtain ⟨j, hj⟩ : ∃ j, rts[i]? = some j := ⟨_, List.getElem?_eq_getElem hr⟩
      rw [gr i j hj, hold j (hrl i j hj)]
      exact (hM2.root i (σ j) (by simp only [subX, List.getElem?_map, hj]; rfl)).2.symm
    · rw [gn i hr]
      simp only [σ'']
      rw [if_neg (by omega), show rts.length + (ob.length + (i - rts.length) - ob.length) = i by omega]
  have st : Stays σ ob σ'' ob2 := by
    refine ⟨by omega, fun j hj o' ho => ?_⟩
    by_cases hin : j ∈ ord
    · by_cases hr : j ∈ rts
      · obtain ⟨i, hi⟩ := List.mem_iff_getElem?.1 hr
        obtain ⟨o1, o2, h1, h2, h3⟩ := hbox i j hi
        have hil : i < obs.length := (List.getElem?_eq_some_iff.1 h2).1
        have := (pNew i hil).2
        rw [gr i j hi, ho, List.getD_eq_getElem?_getD, h2] at this
        simp only [Option.getD_some, Option.some.injEq] at this
        obtain ⟨o3, h4, h5⟩ := renO_some this.symm
        cases h4
        subst h5
        refine ⟨_, h1, hold j hj, ?_⟩
        have h6 := h3.ren g
        cases o1 <;> cases o2 <;> exact h6
      · rw [pKill j hj hin hr] at ho; simp at ho
    · rw [pNot j hj hin] at ho
      exact ⟨o', ho, hold j hj, by cases o' <;> simp⟩
  -- which object it is
  have which : ∀ j o, ob2[j]? = some (some o) → (j < ob.length ∧ j ∉ ord ∧ ob[j]? = some (some o)) ∨ ∃ i o0, j = g i ∧ obs[i]? = some (some o0) ∧ o = renB g o0 ∧ σ'' j = σ2 i := fun j o ho => by
    have aux : ∀ i, i < obs.length → j = g i → ∃ i o0, j = g i ∧ obs[i]? = some (some o0) ∧ o = renB g o0 ∧ σ'' j = σ2 i := fun i hi hj => by
      have h1 := hmv i hi
      rw [← hj, ho] at h1
      obtain ⟨_, hs, h2⟩ := h1
      obtain ⟨o0, h3, h4⟩ := renO_some (Option.some.inj h2).symm
      exact ⟨i, o0, hj, getD_of hi h3, h4, hs⟩
    rcases Nat.lt_or_ge j ob.length with hl | hl
    · by_cases hin : j ∈ ord
      · by_cases hr : j ∈ rts
        · obtain ⟨i, hi⟩ := List.mem_iff_getElem?.1 hr
          obtain ⟨o1, o2, h1, h2, h3⟩ := hbox i j hi
          exact .inr (aux i (List.getElem?_eq_some_iff.1 h2).1 (gr i j hi).symm)
        · rw [pKill j hl hin hr] at ho; simp at ho
      · exact .inl ⟨hl, hin, by rw [← pNot j hl hin]; exact ho⟩
    · have hj2 := lt_of_get ho
      exact .inr (aux (rts.length + (j - ob.length)) (by omega) (by rw [gn _ (by omega)]; omega))
  have hrep : ∀ a v, RepA Γ.P w S σ ob a v → RepA Γ.P w' S' σ'' ob2 a v := fun a v r => RepA.keep hk st a v r
  have hown2 : ∀ b, (subX σ ob ord rts) b → (X b ∨ w0.heap.size ≤ b) ∧ b < w.heap.size := fun b hb => by
    obtain ⟨j, o, _, h1, rfl⟩ := hb
    exact hM.own j o h1
  have hapart2 : ∀ j o, j ∉ ord → ob[j]? = some (some o) → ¬ (subX σ ob ord rts) (σ j).1 := fun j o hj ho hb => by
    obtain ⟨j', o', h1, h2, h3⟩ := hb
    exact hM.apart j' j o' o h2 ho (fun e => hj (e ▸ h1)) h3
  refine ⟨σ'', ⟨?_, hrep, hk⟩, fun a v r => RepA.ren a v (fun i _ => hmv i) r⟩
  refine { objs := ?_, apart := ?_, own := ?_, old := ?_, grow := Nat.le_trans hM.grow hM2.grow, s0 := fun a ha => hM2.s0 a (hM.s0 a ha), snew := ?_, sin := hM2.sin, glob := hM2.glob, env := ⟨hM2.env.1.trans hM.env.1, hM2.env.2.trans hM.env.2⟩, kept := hM.kept.trans hk, root := ?_ }
  · intro j o ho
    rcases which j o ho with ⟨hl, hin, h1⟩ | ⟨i, o0, rfl, h1, rfl, hs⟩
    · have hx := hapart2 j o hin h1
      refine (hM.objs j o h1).keep hk st (hold j hl) (hM2.old _ (hM.own j o h1).2 hx) fun x hx' hb => ?_
      rcases hM2.snew x hx' with h | h | h
      · exact h
      · rw [hb] at h; exact absurd h hx
      · have := (hM.own j o h1).2; omega
    · exact (hM2.objs i o0 h1).ren hs (fun i _ => hmv i)
  · intro j j' o o' h h' hne
    rcases which j o h with ⟨hl, hin, h1⟩ | ⟨i, o0, hj, h1, _, hs⟩ <;> rcases which j' o' h' with ⟨hl', hin', h1'⟩ | ⟨i', o0', hj', h1', _, hs'⟩
    · rw [hold j hl, hold j' hl']; exact hM.apart j j' o o' h1 h1' hne
    · rw [hold j hl, hs']
      intro e
      rcases (hM2.own i' o0' h1').1 with hx | hx
      · rw [← e] at hx; exact hapart2 j o hin h1 hx
      · have := (hM.own j o h1).2; omega
    · rw [hold j' hl', hs]
      intro e
      rcases (hM2.own i o0 h1).1 with hx | hx
      · rw [e] at hx; exact hapart2 j' o' hin' h1' hx
      · have := (hM.own j' o' h1').2; omega
    · rw [hs, hs']
      exact hM2.apart i i' o0 o0' h1 h1' fun e => hne (by rw [hj, hj', e])
  · intro j o ho
    rcases which j o ho with ⟨hl, hin, h1⟩ | ⟨i, o0, _, h1, _, hs⟩
    · rw [hold j hl]
      have := hM.own j o h1
      exact ⟨this.1, Nat.lt_of_lt_of_le this.2 hM2.grow⟩
    · rw [hs]
      have := hM2.own i o0 h1
      refine ⟨?_, this.2⟩
      rcases this.1 with hx | hx
      · exact (hown2 _ hx).1
      · exact .inr (Nat.le_trans hM.grow hx)
  · intro b hb hX
    rw [hM2.old b (Nat.lt_of_lt_of_le hb hM.grow) (fun hx => by
      rcases (hown2 b hx).1 with h | h
      · exact hX h
      · omega), hM.old b hb hX]
  · intro a ha
    rcases hM2.snew a ha with h | h | h
    · exact hM.snew a h
    · exact .inr (hown2 _ h).1
    · exact .inr (.inr (Nat.le_trans hM.grow h))
  · intro k p hkp
    obtain ⟨h1, h2⟩ := hM.root k p hkp
    exact ⟨by omega, by rw [hold k h1]; exact h2⟩
end
end Go.Proofs.Ytbdekjlnnbjicaa.V
