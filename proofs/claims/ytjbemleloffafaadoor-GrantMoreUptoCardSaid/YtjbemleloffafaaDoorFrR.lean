/- Operations. Part nine: conversions, slices of slices, lengths, least and greatest. -/
import Derived.Test.YtjbemleloffafaaDoorFrQ
import Derived.Laws.BytesString
namespace Go.Proofs.YtjbemleloffafaaDoor.V
open Go
set_option linter.unusedVariables false
set_option linter.unusedSimpArgs false

section
variable {Γ : Ctx} {w0 : World} {S0 : Addr → Prop} {X : XB} {w w' : World} {S S' : Addr → Prop} {σ σ' : Loc} {ob ob' : Objs} {R : Type}

/-! ### lengths -/
theorem len_ok (hM : MemOK Γ w0 S0 X w S σ ob) {ts : List TypeId} {t : TypeId} {ty : TypeId} {a : AV} {va : Value} {l : List AV} {lv : List Value} {K : AV → Objs → Option R} {r : R}
    (ha : RepA Γ.P w S σ ob a va) (h : opBuiltin Γ.P .len (t :: ts) (a :: l) ob K = some r) : Out Γ w0 S0 X w S σ ob K r (Builtin.len_ (t :: ts).toArray ty (va :: lv).toArray) := by
  simp only [opBuiltin] at h
  split at h
  · rename_i n e hd
    exact out_same hM h (by simp [Builtin.len_, run_underlying (und_lt (ds_some hd (by simp))).2, goInt]) repI
  · rename_i p hd
    split at h
    · rename_i n e hd'
      exact out_same hM h (by simp [Builtin.len_, run_underlying (und_lt (ds_some hd (by simp))).2, run_underlying (und_lt (ds_some hd' (by simp))).2, goInt]) repI
    · exact absurd h (by simp)
  · rename_i hd
    split at h
    · rename_i l
      simp only [RepA] at ha
      obtain ⟨s, rfl, rfl⟩ := ha
      refine out_same hM h (cv := .int .i64 s.data.toList.length) ?_ repI
      simp [Builtin.len_, run_underlying (und_lt (ds_some hd (by simp))).2, goInt]
    · exact absurd h (by simp)
  · rename_i e hd
    have hu := (und_lt (ds_some hd (by simp))).2
    split at h
    · rename_i n hn
      refine out_same hM h (cv := .int .i64 n) ?_ repI
      have : ∃ b c, va = .slice b n c := by
        cases a <;> simp only [lenA] at hn
        case snil => cases hn; simp only [RepA] at ha; exact ⟨_, _, ha⟩
        case sl e' c xs => cases hn; simp only [RepA] at ha; obtain ⟨b, cap, rfl, _⟩ := ha; exact ⟨_, _, rfl⟩
        case ref e' j =>
          split at hn
          · rename_i e1 xs fz hob
            cases hn
            simp only [RepA] at ha
            obtain ⟨_, b, m, cap, rfl, hq⟩ := ha
            obtain ⟨rfl, rfl, rfl, rfl⟩ := hq _ _ _ hob
            exact ⟨_, _, rfl⟩
          · exact absurd hn (by simp)
        all_goals exact absurd hn (by simp)
      obtain ⟨b, c, rfl⟩ := this
      simp [Builtin.len_, run_underlying hu, goInt]
    · exact absurd h (by simp)
  · exact absurd h (by simp)

theorem minL_run {k : IntKind} : ∀ (l : List AV) (lv : List Value) (x y : Int), RepAs Γ.P w S σ ob l lv → minL k x l = some y → (lv.foldlM Builtin.min2 (.int k x)).run Γ.P w = .ok (.int k y) w
  | [], lv, x, y, h, hm => by simp only [RepAs] at h; subst h; simp only [minL] at hm; cases hm; simp
  | a :: r, lv, x, y, h, hm => by
    simp only [RepAs] at h
    obtain ⟨v, vs', rfl, h1, h2⟩ := h
    cases a <;> simp only [minL] at hm
    case i k' n =>
      simp only [RepA] at h1; subst h1
      have := minL_run r vs' _ y h2 hm
      simp only [List.foldlM_cons, Builtin.min2, Sem.run_bind, Sem.run_pure, Result.andThen_ok]
      by_cases hn : n < x
      · rw [if_pos hn]; simpa [hn] using this
      · rw [if_neg hn]; simpa [hn] using this
    all_goals exact absurd hm (by simp)
theorem maxL_run {k : IntKind} : ∀ (l : List AV) (lv : List Value) (x y : Int), RepAs Γ.P w S σ ob l lv → maxL k x l = some y → (lv.foldlM Builtin.max2 (.int k x)).run Γ.P w = .ok (.int k y) w
  | [], lv, x, y, h, hm => by simp only [RepAs] at h; subst h; simp only [maxL] at hm; cases hm; simp
  | a :: r, lv, x, y, h, hm => by
    simp only [RepAs] at h
    obtain ⟨v, vs', rfl, h1, h2⟩ := h
    cases a <;> simp only [maxL] at hm
    case i k' n =>
      simp only [RepA] at h1; subst h1
      have := maxL_run r vs' _ y h2 hm
      simp only [List.foldlM_cons, Builtin.max2, Sem.run_bind, Sem.run_pure, Result.andThen_ok]
      by_cases hn : n > x
      · rw [if_pos hn]; simpa [show x < n from hn] using this
      · rw [if_neg hn]; simpa [show ¬ x < n from hn] using this
    all_goals exact absurd hm (by simp)

/-! ### slices of slices -/
/-- what is to be known of a bound -/
def OptRep (Γ : Ctx) (w : World) (S : Addr → Prop) (σ : Loc) (ob : Objs) (a : Option AV) (va : Option Value) : Prop :=
  match a, va with | none, none => True | some x, some v => RepA Γ.P w S σ ob x v | _, _ => False
theorem bnd_ok {a : Option AV} {va : Option Value} {df top : Nat} {K : Nat → Option R} {r : R} (h : bnd a df top K = some r)
    (hv : OptRep Γ w S σ ob a va) :
    ∃ n, K n = some r ∧ (a = none → n = df) ∧ ∀ v, va = some v → n ≤ top ∧ ∀ y code, top ≤ y → (Instr.sliceBound v y code).run Γ.P w = .ok n w := by
  cases a with
  | none =>
    cases va with
    | none => exact ⟨df, h, fun _ => rfl, fun v hv => by cases hv⟩
    | some v => exact hv.elim
  | some x =>
    cases va with
    | none => exact hv.elim
    | some v =>
      cases x <;> simp only [bnd] at h
      case i k n =>
        obtain ⟨h1, h2⟩ := cond_some h
        simp only [Bool.and_eq_true, decide_eq_true_eq] at h1
        simp only [OptRep, RepA] at hv
        subst hv
        refine ⟨n.toNat, h2, (by intro e; cases e), fun v' hv' => ?_⟩
        cases hv'
        refine ⟨by omega, fun y code hy => ?_⟩
        have : 0 ≤ n ∧ n ≤ (y : Int) := ⟨h1.1, by omega⟩
        simp only [Instr.sliceBound, asIntOf, Sem.run_bind, Sem.run_pure, Result.andThen_ok, this, and_self, if_true]
      all_goals exact absurd h (by simp)
theorem bounds_ok {lo hi : Option AV} {vlo vhi : Option Value} {len cap : Nat} {isS : Bool} {K : Nat → Nat → Option R} {r : R} (hc : len ≤ cap)
    (h : (bnd hi len len fun h => bnd lo 0 h fun a => K h a) = some r) (h1 : OptRep Γ w S σ ob hi vhi) (h2 : OptRep Γ w S σ ob lo vlo) :
    ∃ l h, K h l = some r ∧ l ≤ h ∧ h ≤ len ∧ (lo = none → l = 0) ∧ (Instr.sliceBounds isS len cap vlo vhi none).run Γ.P w = .ok (l, h, cap) w := by
  obtain ⟨n, hn, hd, hr⟩ := bnd_ok h h1
  obtain ⟨m, hm, hd2, hr2⟩ := bnd_ok hn h2
  cases vhi with
  | none =>
    cases hi with
    | some _ => exact h1.elim
    | none =>
      obtain rfl := hd rfl
      cases vlo with
      | none =>
        cases lo with
        | some _ => exact h2.elim
        | none =>
          obtain rfl := hd2 rfl
          exact ⟨_, _, hm, by omega, by omega, fun _ => rfl, by simp [Instr.sliceBounds]⟩
      | some v =>
        obtain ⟨g1, g2⟩ := hr2 v rfl
        exact ⟨_, _, hm, g1, by omega, hd2, by simp [Instr.sliceBounds, g2 _ _ (Nat.le_refl _)]⟩
  | some vh =>
    obtain ⟨g1, g2⟩ := hr vh rfl
    cases vlo with
    | none =>
      cases lo with
      | some _ => exact h2.elim
      | none =>
        obtain rfl := hd2 rfl
        refine ⟨_, _, hm, by omega, g1, fun _ => rfl, ?_⟩
        simp [Instr.sliceBounds, g2 _ _ hc]
    | some v =>
      obtain ⟨g3, g4⟩ := hr2 v rfl
      refine ⟨_, _, hm, g3, g1, hd2, ?_⟩
      simp [Instr.sliceBounds, g2 _ _ hc, g4 _ _ (Nat.le_refl _)]
theorem extract_list {s : ByteArray} {l h : Nat} : (s.extract l h).data.toList = (s.data.toList.drop l).take (h - l) := by
  rw [ByteArray.data_extract, Array.toList_extract]
/-- a part of data -/
theorem part_sl (hP : tabOk Γ.P = true) {e : TypeId} {xs : List D} {l h m : Nat} {a : Option Addr} (hl : l ≤ h) (hh : h ≤ xs.length) (hm : h ≤ m) (ha : a = none → m = 0) {sz : Nat} (hsz : sz = Γ.P.cellsOf e)
    (hr : xs = [] ∨ ∃ b o, a = some ⟨b, o, none⟩ ∧ RepRow Γ.P w S xs e b o) :
    RepA Γ.P w S σ ob (.sl e .any ((xs.drop l).take (h - l))) (.slice (if m = l then a else a.map (·.add (l * sz))) (h - l) (m - l)) := by
  subst hsz
  simp only [RepA]
  have hlen : ((xs.drop l).take (h - l)).length = h - l := by simp; omega
  refine ⟨_, _, by rw [hlen], ⟨by omega, fun hn => ?_⟩, ?_⟩
  · by_cases hml : m = l
    · omega
    · rw [if_neg hml] at hn
      have := ha (by simpa using hn)
      omega
  rcases hr with rfl | ⟨b, o, rfl, hr⟩
  · exact .inl (by simp)
  · by_cases hml : m = l
    · exact .inl (by rw [show h - l = 0 by omega]; rfl)
    · rw [if_neg hml]
      exact .inr ⟨b, o + l * Γ.P.cellsOf e, by simp [Addr.add_lit], RepRow.take _ (RepRow.drop _ hr)⟩
theorem slice_ok (hP : tabOk Γ.P = true) (hM : MemOK Γ w0 S0 X w S σ ob) {own : Bool} {t : TypeId} {x : AV} {lo hi mx : Option AV} {vx : Value} {vlo vhi vmx : Option Value} {K : AV → Objs → Option R} {r : R}
    (hx : RepA Γ.P w S σ ob x vx) (h1 : OptRep Γ w S σ ob lo vlo) (h2 : OptRep Γ w S σ ob hi vhi) (h3 : OptRep Γ w S σ ob mx vmx) (h : opSlice Γ.P own t x lo hi mx ob K = some r) :
    Out Γ w0 S0 X w S σ ob K r (Instr.slice t vx vlo vhi vmx) := by
  have nomax : mx = none → vmx = none := by rintro rfl; cases vmx with | none => rfl | some v => exact h3.elim
  unfold opSlice at h
  split at h
  · rename_i l hd
    split at h
    · obtain rfl := nomax rfl
      simp only [RepA] at hx
      obtain ⟨s, rfl, rfl⟩ := hx
      rw [← size_len] at h
      obtain ⟨a, b, hK, g1, g2, _, hrun⟩ := bounds_ok (isS := false) (Nat.le_refl _) h h2 h1
      rw [← extract_list] at hK
      refine out_same hM hK (cv := .string (s.extract a b)) ?_ repS
      simp [Instr.slice, run_underlying (und_lt (ds_some hd (by simp))).2, hrun]
    · exact absurd h (by simp)
  · rename_i e0 hd
    have hs := ds_some hd (by simp)
    obtain ⟨d, he⟩ := elem_slice hP hs
    split at h
    · obtain rfl := nomax rfl
      simp only [RepA] at hx
      subst hx
      obtain ⟨a, b, hK, g1, g2, _, hrun⟩ := bounds_ok (isS := true) (Nat.le_refl _) h h2 h1
      have ha : a = 0 := by omega
      have hb : b = 0 := by omega
      subst ha; subst hb
      refine out_same hM hK (cv := .slice none 0 0) ?_ (by simp only [RepA])
      simp [Instr.slice, run_underlying (und_lt hs).2, hrun, sizeOf_run he]
    · exact absurd h (by simp)
  · rename_i e0 e c xs hd
    have hs := ds_some hd (by simp)
    obtain ⟨d, he⟩ := elem_slice hP hs
    obtain ⟨u1, u2, _, u4⟩ := underId_spec hP he
    obtain ⟨hb, h9⟩ := cond_some h
    obtain rfl := beq_id hb
    clear h
    simp only [RepA] at hx
    obtain ⟨a, cap, rfl, hc, hr⟩ := hx
    have hcap : xs.length ≤ cap := by cases c <;> simp only [CapOK] at hc <;> omega
    split at h9
    · obtain rfl := nomax rfl
      obtain ⟨l, h, hK, g1, g2, _, hrun⟩ := bounds_ok (isS := true) hcap h9 h2 h1
      refine out_same hM hK ?_ (part_sl hP g1 g2 (Nat.le_trans g2 hcap) hc.nc u2.symm hr)
      simp [Instr.slice, run_underlying (und_lt hs).2, hrun, sizeOf_run he]
    · rename_i m
      split at h9
      · rename_i hi
        cases vmx with
        | none => exact h3.elim
        | some vm =>
        cases vhi with
        | none => exact h2.elim
        | some vh =>
          obtain ⟨m, hm, _, hr2⟩ := bnd_ok h9 h3
          obtain ⟨gm, gm2⟩ := hr2 vm rfl
          obtain ⟨hh, hn, _, hr3⟩ := bnd_ok hm h2
          obtain ⟨gh, gh2⟩ := hr3 vh rfl
          obtain ⟨l, hK, hd2, hr4⟩ := bnd_ok hn h1
          have hl : l ≤ hh ∧ (Instr.sliceBounds true xs.length cap vlo (some vh) (some vm)).run Γ.P w = .ok (l, hh, m) w := by
            cases vlo with
            | none =>
              cases lo with
              | some _ => exact h1.elim
              | none =>
                obtain rfl := hd2 rfl
                refine ⟨by omega, ?_⟩
                simp [Instr.sliceBounds, gm2 _ _ hcap, gh2 _ _ (Nat.le_refl _)]
            | some v =>
              obtain ⟨g3, g4⟩ := hr4 v rfl
              refine ⟨g3, ?_⟩
              simp [Instr.sliceBounds, gm2 _ _ hcap, gh2 _ _ (Nat.le_refl _), g4 _ _ (Nat.le_refl _)]
          refine out_same hM hK ?_ (part_sl hP hl.1 (Nat.le_trans gh gm) gh (fun hn => by have := hc.nc hn; omega) u2.symm hr)
          simp [Instr.slice, run_underlying (und_lt hs).2, hl.2, sizeOf_run he]
      · exact absurd h9 (by simp)
  · rename_i e0 e j hd
    have hs := ds_some hd (by simp)
    obtain ⟨d, he⟩ := elem_slice hP hs
    obtain ⟨u1, u2, _, u4⟩ := underId_spec hP he
    obtain ⟨hb, h9⟩ := cond_some h
    obtain rfl := beq_id hb
    clear h
    split at h9
    · rename_i e1 xs fz hob
      obtain rfl := nomax rfl
      have hx0 := hx
      simp only [RepA] at hx
      obtain ⟨_, b, n, cap, rfl, ha⟩ := hx
      obtain ⟨rfl, rfl, rfl, rfl⟩ := ha _ _ _ hob
      have hO := hM.objs j _ hob
      have hO' := hO
      simp only [ObjAt] at hO
      obtain ⟨cs, el, fr, hb, hnf, hcs, hle, hrow, hel, hS⟩ := hO
      have hown := hM.own j _ hob
      rcases cond_cases h9 with ⟨_, h⟩ | ⟨_, h⟩
      · split at h
        · obtain ⟨l, hh, hK, g1, g2, hl0, hrun⟩ := bounds_ok (isS := true) (lo := none) (K := fun h _ => K (.ref (underId Γ.P e0) ob.length) (ob.set j none ++ [some (.arr (underId Γ.P e0) (xs.take h) false)])) hle h h2 h1
          obtain rfl := hl0 rfl
          have t1 := hM.kill j
          have t2 := t1.1.add (o := .arr (underId Γ.P e0) (xs.take hh) false) (b := (σ j).1) (c := (σ j).2) hown.2 hown.1 (fun k o hk => by
            obtain ⟨h1, h2⟩ := get_kill hk
            exact hM.apart k j _ _ h2 hob h1) (by
            simp only [ObjAt, more_new]
            refine ⟨cs, el, fr, hb, hnf, hcs, by rw [List.length_take]; omega, RowV.take _ hrow, hel, fun y hy hyb => ?_⟩
            have := (hS y hy hyb).1
            simp at this)
          rw [List.length_set] at t2
          refine ⟨_, _, hK, .slice (some ⟨(σ j).1, 0, none⟩) hh (σ j).2, w, S, _, ?_, t1.trans t2, ?_⟩
          · simp [Instr.slice, run_underlying (und_lt hs).2, hrun, sizeOf_run he, Addr.add_lit]
          · simp only [RepA]
            refine ⟨by simp, (σ j).1, _, _, rfl, fun e' xs' fz' hc => ?_⟩
            rcases get_more hc with ⟨hl, _⟩ | ⟨_, he'⟩
            · rw [List.length_set] at hl; omega
            · cases he'
              rw [more_new, List.length_take, Nat.min_eq_left g2]
              exact ⟨rfl, rfl, rfl, rfl⟩
        · exact absurd h (by simp)
      · obtain ⟨l, hh, hK, g1, g2, _, hrun⟩ := bounds_ok (isS := true) hle h h2 h1
        obtain ⟨S', t1, hr1⟩ := frz_ok hP hM (a := .ref (underId Γ.P e0) j) (a' := .sl (underId Γ.P e0) .any xs) (ob' := ob.set j (some (.arr (underId Γ.P e0) xs true))) (by simp only [frz, hob]) hx0
        simp only [RepA] at hr1
        obtain ⟨a, cap, hv, _, hr⟩ := hr1
        cases hv
        refine ⟨_, _, hK, _, w, S', σ, ?_, t1, part_sl hP g1 g2 (Nat.le_trans g2 hle) (fun hn => by simp at hn) u2.symm hr⟩
        simp [Instr.slice, run_underlying (und_lt hs).2, hrun, sizeOf_run he]
    · exact absurd h9 (by simp)
  · exact absurd h (by simp)
/-! ### conversions -/
theorem modify_push {α : Type} (h : Array α) (x : α) (f : α → α) : (h.push x).modify h.size f = h.push (f x) := by
  apply Array.ext_getElem?
  intro i
  simp only [Array.getElem?_modify, Array.getElem?_push]
  by_cases hi : h.size = i
  · subst hi; simp
  · have : ¬ i = h.size := fun e => hi e.symm
    simp [hi, this]
def bytesRow (s : ByteArray) (cap : Nat) : Array Value := (s.data.map fun (b : UInt8) => Value.int .u8 b.toNat) ++ Array.replicate (cap - s.size) (.int .u8 0)
theorem toBytes_run {e : TypeId} {s : ByteArray} : (Conv.stringToBytes e s).run Γ.P w = .ok (.slice (some ⟨w.heap.size, 0, none⟩) s.size (grownCap w s.size 0 e))
    { w.drew with heap := w.heap.push (.cells (bytesRow s (grownCap w s.size 0 e)) e ((bytesRow s (grownCap w s.size 0 e)).size, (bytesRow s (grownCap w s.size 0 e)).size + 1)) } := by
  have hq : (Question.appendCap s.size 0 e).forced = false := rfl
  simp only [Conv.stringToBytes, Sem.run_bind, run_choose, hq, Bool.false_eq_true, if_false, Result.andThen_ok, newRow, newObj, markStringish, Sem.run_pure]
  simp only [Sem.run, Result.andThen_ok, Sem.run_bind, run_shape, World.shape?, Array.getElem?_push_size, run_freeze, World.freeze]
  simp only [Nat.one_ne_zero, if_false, Array.size_push, modify_push, Sem.run_pure, beq_self_eq_true, if_true, Result.andThen_ok]
  rfl
theorem unBytes_spec : ∀ {xs : List D} {l : List UInt8} {n : Nat} {e : TypeId} {vs : List Value}, RepFs Γ.P w S xs (List.replicate n e) vs → unBytes xs = some l →
    ∃ ns : List Int, vs = ns.map (Value.int .u8) ∧ l = ns.map fun n => UInt8.ofNat n.toNat
  | [], l, n, e, vs, h, hu => by
    simp only [unBytes] at hu; cases hu
    simp only [RepFs] at h
    exact ⟨[], by simp [h.2], rfl⟩
  | .int k m :: r, l, 0, e, vs, h, hu => by simp [RepFs] at h
  | .int k m :: r, l, n + 1, e, vs, h, hu => by
    cases k <;> simp only [unBytes] at hu
    case u8 =>
      simp only [List.replicate_succ, RepFs] at h
      obtain ⟨t, ts', v1, v2, h1, rfl, h3, h4⟩ := h
      cases h1
      simp only [RepT] at h3
      obtain ⟨l', hl', rfl⟩ := Option.map_eq_some_iff.1 hu
      obtain ⟨ns, rfl, rfl⟩ := unBytes_spec h4 hl'
      exact ⟨m :: ns, by simp [h3.2], rfl⟩
    all_goals exact absurd hu (by simp)
  | .bool _ :: r, l, n, e, vs, h, hu => by simp [unBytes] at hu
  | .str _ :: r, l, n, e, vs, h, hu => by simp [unBytes] at hu
  | .slice _ _ :: r, l, n, e, vs, h, hu => by simp [unBytes] at hu
  | .agg _ :: r, l, n, e, vs, h, hu => by simp [unBytes] at hu
theorem foldl_push (ns : List Int) : ∀ (s : ByteArray), (ns.foldl (fun r n => r.push (UInt8.ofNat n.toNat)) s).data.toList = s.data.toList ++ ns.map fun n => UInt8.ofNat n.toNat := by
  induction ns with
  | nil => intro s; simp
  | cons n r ih => intro s; rw [List.foldl_cons, ih]; simp [ByteArray.push]
theorem convert_ok (hP : tabOk Γ.P = true) (hM : MemOK Γ w0 S0 X w S σ ob) {own : Bool} {src dst : TypeId} {x : AV} {vx : Value} {K : AV → Objs → Option R} {r : R} (hx : RepA Γ.P w S σ ob x vx)
    (h : opConvert Γ.P own src dst x ob K = some r) : Out Γ w0 S0 X w S σ ob K r (convert src dst vx) := by
  unfold opConvert at h
  split at h
  · exact absurd h (by simp)
  · rename_i sd hsd
    have hu := (und_lt hsd).2
    have back : ∀ {e : TypeId} {xs : List D} (x : AV), ds Γ.P dst = .string → und Γ.P src = some (.slice e) → ds Γ.P e = .int .u8 → RepA Γ.P w S σ ob x vx → (∀ l, x = .s l → False) →
        elems Γ.P (underId Γ.P e) ob x = some xs → kBytes xs (fun l => K (.s l) ob) = some r → Out Γ w0 S0 X w S σ ob K r (convert src dst vx) := by
      intro e xs x hd hs he hx hns hel hk
      have he := ds_some he (by simp)
      have hd := (und_lt (ds_some hd (by simp))).2
      obtain ⟨news, hsrc, hfs⟩ := src_ok hP hM (tx := src) he (.inl ⟨_, (und_lt hs).2⟩) hel hx
      unfold kBytes at hk
      cases hb : unBytes xs with
      | none => simp [hb] at hk
      | some l =>
        rw [hb] at hk
        simp only at hk
        obtain ⟨ns, rfl, rfl⟩ := unBytes_spec hfs hb
        obtain ⟨a, n, c, rfl, hn⟩ : ∃ a n c, vx = .slice a n c ∧ n = xs.length := by
          cases x <;> simp only [elems] at hel
          case snil => cases hel; simp only [RepA] at hx; exact ⟨_, _, _, hx, rfl⟩
          case sl e' c xs =>
            obtain ⟨_, h2⟩ := cond_some hel
            cases h2; simp only [RepA] at hx; obtain ⟨b, cap, rfl, _⟩ := hx; exact ⟨_, _, _, rfl, rfl⟩
          case ref e' j =>
            obtain ⟨_, h2⟩ := cond_some hel
            split at h2
            · rename_i e1 xs fz hob
              cases h2
              simp only [RepA] at hx
              obtain ⟨_, b, m, cap, rfl, hq⟩ := hx
              obtain ⟨rfl, rfl, rfl, rfl⟩ := hq _ _ _ hob
              exact ⟨_, _, _, rfl, rfl⟩
            · exact absurd h2 (by simp)
          case s l => exact (hns l rfl).elim
          all_goals exact absurd hel (by simp)
        subst hn
        have hcells := hsrc.cells
        have hc1 := cells_int hP he
        refine out_same hM hk (cv := .string (ns.foldl (fun r n => r.push (UInt8.ofNat n.toNat)) ByteArray.empty)) ?_ (by
          simp only [RepA]; exact ⟨_, by rw [foldl_push]; rfl, rfl⟩)
        rw [run_convert_bytes_string w src dst e _ _ _ (und_lt hs).2 (und_lt he).2 hd]
        cases a with
        | none =>
          simp only [run_firstCells_none] at hcells
          have : ns = [] := by cases ns with | nil => rfl | cons a r => simp at hcells
          subst this
          rfl
        | some a =>
          simp only [Builtin.firstCells, hc1, Nat.mul_one] at hcells
          exact run_bytesToString w a _ _ ns hcells
    split at h
    · rename_i k k' n hd
      have hd := (und_lt (ds_some hd (by simp))).2
      simp only [RepA] at hx; subst hx
      refine out_same hM h (cv := .int k (k.wrap n)) ?_ repI
      cases sd <;> simp [convert, run_underlying hu, run_underlying hd, Conv.intToInt]
    · rename_i l hd
      have hd := (und_lt (ds_some hd (by simp))).2
      simp only [RepA] at hx; obtain ⟨s, rfl, rfl⟩ := hx
      refine out_same hM h (cv := .string s) ?_ repS
      cases sd <;> simp [convert, run_underlying hu, run_underlying hd]
    · rename_i e l hd
      have hd := (und_lt (ds_some hd (by simp))).2
      split at h
      · rename_i hde
        have he := ds_some hde (by simp)
        simp only [RepA] at hx; obtain ⟨s, rfl, rfl⟩ := hx
        have hrun : (convert src dst (.string s)).run Γ.P w = (Conv.stringToBytes e s).run Γ.P w := by
          cases sd <;> simp [convert, run_underlying hu, run_underlying hd, run_underlying (und_lt he).2]
        rw [toBytes_run] at hrun
        have hge := grownCap_ge w s.size 0 e
        have hlen : (bytesD s.data.toList).length = s.size := by rw [size_len]; simp [bytesD]
        have hfs := bytesD_fs (w := w) (S := S) he s.data.toList
        rcases cond_cases h with ⟨_, h⟩ | ⟨_, h⟩
        · obtain ⟨σ', t1, hr⟩ := newArr_ok (w' := { w.drew with heap := w.heap.push (.cells (bytesRow s (grownCap w s.size 0 e)) e ((bytesRow s (grownCap w s.size 0 e)).size, (bytesRow s (grownCap w s.size 0 e)).size + 1)) }) (cs := bytesRow s (grownCap w s.size 0 e)) (el := e) (fr := ((bytesRow s (grownCap w s.size 0 e)).size, (bytesRow s (grownCap w s.size 0 e)).size + 1)) hP hM false he rfl (cap := grownCap w s.size 0 e) (by
            unfold bytesRow
            rw [cells_int hP he, Array.size_append, Array.size_map, Array.size_replicate, Nat.mul_one]
            show s.size + _ = _
            omega) (by rw [hlen]; exact hge) hfs (by
              intro j v hj
              unfold bytesRow
              rw [Array.toList_append, List.getElem?_append_left (by simpa using getL hj)]
              simpa using hj) (by intro o ho hh; omega)
          rw [hlen] at hr
          exact ⟨_, _, h, _, _, S, σ', hrun, t1, hr⟩
        · obtain ⟨S', t1, hr⟩ := newData_ok (w' := { w.drew with heap := w.heap.push (.cells (bytesRow s (grownCap w s.size 0 e)) e ((bytesRow s (grownCap w s.size 0 e)).size, (bytesRow s (grownCap w s.size 0 e)).size + 1)) }) (cs := bytesRow s (grownCap w s.size 0 e)) (el := e) (fr := ((bytesRow s (grownCap w s.size 0 e)).size, (bytesRow s (grownCap w s.size 0 e)).size + 1)) hP hM he rfl (c := .any) (cap := grownCap w s.size 0 e) (by simp only [CapOK]; rw [hlen]; exact ⟨hge, fun hn => by simp at hn⟩) hfs (by
              intro j v hj
              unfold bytesRow
              rw [Array.toList_append, List.getElem?_append_left (by simpa using getL hj)]
              simpa using hj)
          rw [hlen] at hr
          exact ⟨_, _, h, _, _, S', σ, hrun, t1, hr⟩
      · exact absurd h (by simp)
    · rename_i hd
      split at h
      · rename_i e
        split at h
        · rename_i he
          exact back (xs := []) .snil hd hsd he hx (fun l e => by cases e) (by simp only [elems]) h
        · exact absurd h (by simp)
      · exact absurd h (by simp)
    · rename_i x' hd hns hnil
      split at h
      · rename_i e
        split at h
        · rename_i he
          split at h
          · rename_i xs hel
            exact back _ hd hsd he hx hns hel h
          · exact absurd h (by simp)
        · exact absurd h (by simp)
      · exact absurd h (by simp)
    · exact absurd h (by simp)
end
end Go.Proofs.YtjbemleloffafaaDoor.V
