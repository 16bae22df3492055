/- Grants: contracts of Allows and the document's Allows; the simplest facts; the law of Allows. -/
import Derived.Test.YtjbemleloffafaaDoorGrE
import Derived.Test.YtjbemleloffafaaDoorGrG
namespace Go.Proofs.YtjbemleloffafaaDoor.V
open Go
set_option maxRecDepth 1000000
set_option linter.unusedVariables false
set_option linter.unusedSimpArgs false
variable {mx : Int}
theorem awake_run : callN (Γ mx) ext 100 12 [] [] = some (true, .b true, []) := by kernel_rfl
theorem c12 (_ : true = true) : RetX (Γ mx) 12 [] [] (.b true) [] := ret_run hP hZ hN ext_ok awake_run
theorem askC_eq {a : D} (h : askC a = true) : ∃ x y z, a = .agg [.str x, .str y, .str z] ∧ short x = true ∧ short y = true ∧ short z = true := by
  unfold askC at h
  split at h
  · simp only [Bool.and_eq_true] at h
    exact ⟨_, _, _, rfl, h.1, h.2.1, h.2.2⟩
  · exact absurd h (by simp)
theorem h39_ok : CallsOK (Γ mx) H39 := specs_ok (.cons (sp2_ok c69) .nil)
theorem c39 (a g : D) (h : (askC a && isG g) = true) : RetX (Γ mx) 39 [.d 65 a, .d 29 g] [] (.b (meetsD a g)) [] := by
  simp only [Bool.and_eq_true] at h
  obtain ⟨x, y, z, rfl, hx, hy, hz⟩ := askC_eq h.1
  obtain ⟨b, w, t, k, rfl⟩ := isG_eq h.2
  have w1 : IntKind.wrap .i64 ((0 : Int) + 1) = 1 := by decide
  have w2 : IntKind.wrap .i64 ((1 : Int) + 1) = 2 := by decide
  have w3 : IntKind.wrap .i64 ((2 : Int) + 1) = 3 := by decide
  have s3 (lab : Lab) : evL (Γ mx) H39 lab 39 2 ⟨[(24, .sl 99 .ex [D.agg [D.str w, D.str x], D.agg [D.str t, D.str y], D.agg [D.str k, D.str z]]), (25, .i .i64 3), (26, .i .i64 3)], []⟩ = some (.b true, []) := by
    rw [r39_2a]; rfl
  have s2 (lab : Lab) : evL (Γ mx) H39 lab 39 2 ⟨[(24, .sl 99 .ex [D.agg [D.str w, D.str x], D.agg [D.str t, D.str y], D.agg [D.str k, D.str z]]), (25, .i .i64 3), (26, .i .i64 2)], []⟩ = bif short z then (bif !(matB k z) then (some (.b false, [])) else (lab (todoAt (Γ mx) 39 2) ⟨[(24, .sl 99 .ex [D.agg [D.str w, D.str x], D.agg [D.str t, D.str y], D.agg [D.str k, D.str z]]), (25, .i .i64 3), (26, .i .i64 3)], []⟩)) else none := by
    rw [r39_2a]; rfl
  have s1 (lab : Lab) : evL (Γ mx) H39 lab 39 2 ⟨[(24, .sl 99 .ex [D.agg [D.str w, D.str x], D.agg [D.str t, D.str y], D.agg [D.str k, D.str z]]), (25, .i .i64 3), (26, .i .i64 1)], []⟩ = bif short y then (bif !(matB t y) then (some (.b false, [])) else (lab (todoAt (Γ mx) 39 2) ⟨[(24, .sl 99 .ex [D.agg [D.str w, D.str x], D.agg [D.str t, D.str y], D.agg [D.str k, D.str z]]), (25, .i .i64 3), (26, .i .i64 2)], []⟩)) else none := by
    rw [r39_2a]; rfl
  have s0 (lab : Lab) : evL (Γ mx) H39 lab 39 2 ⟨[(24, .sl 99 .ex [D.agg [D.str w, D.str x], D.agg [D.str t, D.str y], D.agg [D.str k, D.str z]]), (25, .i .i64 3), (26, .i .i64 0)], []⟩ = bif short x then (bif !(matB w x) then (some (.b false, [])) else (lab (todoAt (Γ mx) 39 2) ⟨[(24, .sl 99 .ex [D.agg [D.str w, D.str x], D.agg [D.str t, D.str y], D.agg [D.str k, D.str z]]), (25, .i .i64 3), (26, .i .i64 1)], []⟩)) else none := by
    rw [r39_2a]; rfl
  have e : meetsD (.agg [.str x, .str y, .str z]) (.agg [.bool b, .str w, .str t, .str k]) = (matB w x && (matB t y && matB k z)) := rfl
  have g3 : Goes (Γ mx) H39 39 2 ⟨[(24, .sl 99 .ex [D.agg [D.str w, D.str x], D.agg [D.str t, D.str y], D.agg [D.str k, D.str z]]), (25, .i .i64 3), (26, .i .i64 3)], []⟩ (.b true, []) := Goes.step ⟨0, s3 _⟩
  have g2 : Goes (Γ mx) H39 39 2 ⟨[(24, .sl 99 .ex [D.agg [D.str w, D.str x], D.agg [D.str t, D.str y], D.agg [D.str k, D.str z]]), (25, .i .i64 3), (26, .i .i64 2)], []⟩ (.b (matB k z), []) := by
    obtain ⟨n, hn⟩ := g3
    refine Goes.step ⟨n, ?_⟩
    rw [s2, hz, cond_true]
    cases matB k z with
    | false => rfl
    | true => exact hn
  have g1 : Goes (Γ mx) H39 39 2 ⟨[(24, .sl 99 .ex [D.agg [D.str w, D.str x], D.agg [D.str t, D.str y], D.agg [D.str k, D.str z]]), (25, .i .i64 3), (26, .i .i64 1)], []⟩ (.b (matB t y && matB k z), []) := by
    obtain ⟨n, hn⟩ := g2
    refine Goes.step ⟨n, ?_⟩
    rw [s1, hy, cond_true]
    cases matB t y with
    | false => rfl
    | true => exact hn
  have g0 : Goes (Γ mx) H39 39 2 ⟨[(24, .sl 99 .ex [D.agg [D.str w, D.str x], D.agg [D.str t, D.str y], D.agg [D.str k, D.str z]]), (25, .i .i64 3), (26, .i .i64 0)], []⟩ (.b (matB w x && (matB t y && matB k z)), []) := by
    obtain ⟨n, hn⟩ := g1
    refine Goes.step ⟨n, ?_⟩
    rw [s0, hx, cond_true]
    cases matB w x with
    | false => rfl
    | true => exact hn
  obtain ⟨n, hn⟩ := g0
  exact ret_goes (Γ := Γ mx) hP hZ h39_ok (by kernel_rfl) ⟨n, by rw [r39, e]; exact hn⟩
theorem h40_ok : CallsOK (Γ mx) H40 := specs_ok (.cons (sp2_ok c70) .nil)
theorem c40 (g : D) (x y z : List UInt8) (h : (isG g && (short x && (short y && short z))) = true) : RetX (Γ mx) 40 [.d 29 g, .s x, .s y, .s z] [] (.b (meetsD (D.agg [D.str x, D.str y, D.str z]) g)) [] := by
  simp only [Bool.and_eq_true] at h
  obtain ⟨h1, hx, hy, hz⟩ := h
  obtain ⟨b, w, t, k, rfl⟩ := isG_eq h1
  have e : meetsD (.agg [.str x, .str y, .str z]) (.agg [.bool b, .str w, .str t, .str k]) = (matB w x && (matB t y && matB k z)) := rfl
  refine ret_goes (Γ := Γ mx) hP hZ h40_ok (by kernel_rfl) ⟨0, ?_⟩
  rw [r40, e, hx, hy, hz]
  cases matB w x <;> cases matB t y <;> rfl
/-! ### Allows -/
theorem h13_ok : CallsOK (Γ mx) H13 := specs_ok (.cons (spL1_ok c38) (.cons (sp1_ok c15) (.cons (spDD_ok c39) .nil)))
theorem h14_ok : CallsOK (Γ mx) H14 := specs_ok (.cons (spL1_ok c17) (.cons (sp1_ok c16) (.cons (spD3_ok c40) .nil)))
def fin13 (b : Bool) (M : D → Bool) (l : List D) : Bool := (b || l.any M) && !l.any fun g => M g && gDeny g
theorem g13 (l : List D) (hl : l.length ≤ 1099511627776) (x y z : List UInt8) (hs : askC (.agg [.str x, .str y, .str z]) = true) : ∀ (rest pre : List D) (i : Int) (b : Bool), rest.all isG = true → l = pre ++ rest → i = (pre.length : Int) →
    Goes (Γ mx) H13 13 10 ⟨[(10, .ptr 0 [] 65), (11, .b b), (30, .sl 29 .any l), (31, .i .i64 (l.length : Int)), (32, .i .i64 i)], [some (.box 65 (.d 65 (D.agg [D.str x, D.str y, D.str z])))]⟩ (.tuple [.b (fin13 b (meetsA x y z) rest), .i .i64 0], [])
  | [], pre, i, b, hg, he, hi => by
    subst hi
    refine Goes.step ⟨0, ?_⟩
    rw [r13_10a, decide_eq_false (show ¬ (pre.length : Int) < (l.length : Int) by rw [he]; simp)]
    cases b <;> rfl
  | g :: r, pre, i, b, hg, he, hi => by
    subst hi
    have hlen : l.length = pre.length + (r.length + 1) := by rw [he]; simp
    have hg' : isG g = true ∧ r.all isG = true := by simpa using hg
    obtain ⟨d, w, t, k, rfl⟩ := isG_eq hg'.1
    have hid : ∀ {R : Type} (K : D → Option R), idx l (pre.length : Int) K = K (.agg [.bool d, .str w, .str t, .str k]) := fun K => by rw [he]; exact idx_mid pre r _ K
    have hw : IntKind.wrap .i64 ((pre.length : Int) + 1) = (pre.length : Int) + 1 := wrapI (by omega) (by omega)
    have hf (c : Bool) := g13 l hl x y z hs r (pre ++ [.agg [.bool d, .str w, .str t, .str k]]) ((pre.length : Int) + 1) c hg'.2 (by rw [he]; simp) (by simp)
    have e : fin13 b (meetsA x y z) (.agg [.bool d, .str w, .str t, .str k] :: r) = bif meetsA x y z (.agg [.bool d, .str w, .str t, .str k]) then (bif d then false else fin13 true (meetsA x y z) r) else fin13 b (meetsA x y z) r := by
      unfold fin13
      rw [List.any_cons, List.any_cons, show gDeny (.agg [.bool d, .str w, .str t, .str k]) = d from rfl]
      cases meetsA x y z (.agg [.bool d, .str w, .str t, .str k]) <;> cases d <;> simp
    have e2 : meetsA x y z (.agg [.bool d, .str w, .str t, .str k]) = meetsD (.agg [.str x, .str y, .str z]) (.agg [.bool d, .str w, .str t, .str k]) := rfl
    rw [e, e2]
    cases hm : meetsD (.agg [.str x, .str y, .str z]) (.agg [.bool d, .str w, .str t, .str k]) with
    | false =>
      obtain ⟨n, hn⟩ := hf b
      refine Goes.step ⟨n, ?_⟩
      rw [r13_10a, decide_eq_true (show (pre.length : Int) < (l.length : Int) by omega), cond_true, hid]
      simp only [dAgg, lCons, dBool, dStr, lNil, hg'.1, hs, Bool.and_self, cond_true, hm, Bool.not_false, cond_false, hw]
      exact hn
    | true =>
      cases d with
      | true =>
        refine Goes.step ⟨0, ?_⟩
        rw [r13_10a, decide_eq_true (show (pre.length : Int) < (l.length : Int) by omega), cond_true, hid]
        simp only [dAgg, lCons, dBool, dStr, lNil, hg'.1, hs, Bool.and_self, cond_true, hm, Bool.not_true, cond_false]
      | false =>
        obtain ⟨n, hn⟩ := hf true
        refine Goes.step ⟨n, ?_⟩
        rw [r13_10a, decide_eq_true (show (pre.length : Int) < (l.length : Int) by omega), cond_true, hid]
        simp only [dAgg, lCons, dBool, dStr, lNil, hg'.1, hs, Bool.and_self, cond_true, hm, Bool.not_true, cond_false, hw]
        exact hn
theorem alC_eq {l : List D} {x y z : List UInt8} (h : alC l x y z = true) : allG l = true ∧ askC (.agg [.str x, .str y, .str z]) = true := by
  unfold alC at h
  simp only [Bool.and_eq_true] at h
  exact ⟨h.1, by unfold askC; simp only [Bool.and_eq_true]; exact h.2⟩
theorem c13 (l : List D) (x y z : List UInt8) (h : alC l x y z = true) : RetX (Γ mx) 13 [.sl 29 .any l, .s x, .s y, .s z] [] (alA l x y z) [] := by
  obtain ⟨h1, h2⟩ := alC_eq h
  obtain ⟨g1, g2⟩ := allG_eq h1
  unfold alA alB alE
  cases hb : grB l with
  | false => exact ret_goes (Γ := Γ mx) hP hZ h13_ok (by kernel_rfl) ⟨0, by rw [r13, h1, hb]; rfl⟩
  | true =>
  cases hk : knownW y with
  | false => exact ret_goes (Γ := Γ mx) hP hZ h13_ok (by kernel_rfl) ⟨0, by rw [r13, h1, hb, hk]; rfl⟩
  | true =>
  cases l with
  | nil => exact ret_goes (Γ := Γ mx) hP hZ h13_ok (by kernel_rfl) ⟨0, by rw [r13, h1, hb, hk]; rfl⟩
  | cons g r =>
    obtain ⟨n, hn⟩ := g13 (mx := mx) (g :: r) g1 x y z h2 (g :: r) [] 0 false g2 rfl rfl
    refine ret_goes (Γ := Γ mx) hP hZ h13_ok (by kernel_rfl) ⟨n, ?_⟩
    rw [r13, h1, hb, hk, show ((((g :: r).length : Nat) : Int) == 0) = false from beq_eq_false_iff_ne.2 (by simp; omega)]
    exact hn
def cntM (M : D → Bool) (b : Bool) : List D → Nat
  | [] => 0
  | g :: r => cntM M b r + (bif M g && (gDeny g == b) then 1 else 0)
theorem cntM_le (M : D → Bool) (b : Bool) : ∀ l : List D, cntM M b l ≤ l.length
  | [] => Nat.le_refl _
  | g :: r => by
    have := cntM_le M b r
    rw [cntM, List.length_cons]
    cases (M g && (gDeny g == b)) <;> simp <;> omega
theorem cnt_fin (M : D → Bool) : ∀ l : List D, (decide (cntM M false l > 0) && decide (cntM M true l = 0)) = (l.any M && !l.any fun g => M g && gDeny g)
  | [] => rfl
  | g :: r => by
    have ih := cnt_fin M r
    rw [cntM, cntM, List.any_cons, List.any_cons]
    cases hM : M g with
    | false => simpa using ih
    | true =>
      cases hd : gDeny g with
      | true => simp
      | false =>
        have h2 : decide (cntM M true r = 0) = !r.any fun g => M g && gDeny g := by
          clear ih
          induction r with
          | nil => rfl
          | cons a s ih =>
            rw [cntM, List.any_cons]
            cases M a <;> cases gDeny a <;> simp_all
        simp [h2]
theorem g14 (l : List D) (hl : l.length ≤ 1099511627776) (x y z : List UInt8) (hs : (short x && (short y && short z)) = true) : ∀ (rest pre : List D) (i : Int) (a b : Nat), rest.all isG = true → l = pre ++ rest → i = (pre.length : Int) → a ≤ pre.length → b ≤ pre.length → l ≠ [] →
    Goes (Γ mx) H14 14 7 ⟨[(0, .sl 29 .any l), (1, .s x), (2, .s y), (3, .s z), (10, .i .i64 (a : Int)), (11, .i .i64 (b : Int)), (12, .i .i64 i)], []⟩ (.tuple [.b (decide (a + cntM (meetsA x y z) false rest > 0) && decide (b + cntM (meetsA x y z) true rest = 0)), .i .i64 0], [])
  | [], pre, i, a, b, hg, he, hi, ha, hb, hne => by
    subst hi
    have hl0 : ((l.length : Int) == 0) = false := beq_eq_false_iff_ne.2 (by cases l with | nil => exact absurd rfl hne | cons c d => simp; omega)
    have e1 : (((b : Nat) : Int) == 0) = decide (b + cntM (meetsA x y z) true [] = 0) := by
      show decide (((b : Nat) : Int) = 0) = _
      rw [cntM]
      exact decide_eq_decide.2 (by omega)
    have e2 : decide (((a : Nat) : Int) > 0) = decide (a + cntM (meetsA x y z) false [] > 0) := by rw [cntM]; exact decide_eq_decide.2 (by omega)
    refine Goes.step ⟨0, ?_⟩
    rw [r14_7a, decide_eq_false (show ¬ (pre.length : Int) < (l.length : Int) by rw [he]; simp), cond_false, hl0, cond_false, e1, e2]
    cases decide (a + cntM (meetsA x y z) false [] > 0) <;> rfl
  | g :: r, pre, i, a, b, hg, he, hi, ha, hb, hne => by
    subst hi
    have hlen : l.length = pre.length + (r.length + 1) := by rw [he]; simp
    have hg' : isG g = true ∧ r.all isG = true := by simpa using hg
    obtain ⟨d, w, t, k, rfl⟩ := isG_eq hg'.1
    have hid : ∀ {R : Type} (K : D → Option R), idx l (pre.length : Int) K = K (.agg [.bool d, .str w, .str t, .str k]) := fun K => by rw [he]; exact idx_mid pre r _ K
    have hw : IntKind.wrap .i64 ((pre.length : Int) + 1) = (pre.length : Int) + 1 := wrapI (by omega) (by omega)
    have hwa : IntKind.wrap .i64 ((a : Int) + 1) = ((a + 1 : Nat) : Int) := by rw [wrapI (by omega) (by omega)]; omega
    have hwb : IntKind.wrap .i64 ((b : Int) + 1) = ((b + 1 : Nat) : Int) := by rw [wrapI (by omega) (by omega)]; omega
    have hf (a' b' : Nat) (h1 : a' ≤ a + 1) (h2 : b' ≤ b + 1) := g14 l hl x y z hs r (pre ++ [.agg [.bool d, .str w, .str t, .str k]]) ((pre.length : Int) + 1) a' b' hg'.2 (by rw [he]; simp) (by simp) (by simp; omega) (by simp; omega) hne
    have e2 : meetsA x y z (.agg [.bool d, .str w, .str t, .str k]) = meetsD (.agg [.str x, .str y, .str z]) (.agg [.bool d, .str w, .str t, .str k]) := rfl
    rw [cntM, cntM, e2, show gDeny (.agg [.bool d, .str w, .str t, .str k]) = d from rfl]
    cases hm : meetsD (.agg [.str x, .str y, .str z]) (.agg [.bool d, .str w, .str t, .str k]) with
    | false =>
      obtain ⟨n, hn⟩ := hf a b (by omega) (by omega)
      refine Goes.step ⟨n, ?_⟩
      rw [r14_7a, decide_eq_true (show (pre.length : Int) < (l.length : Int) by omega), cond_true, hid]
      simp only [dAgg, lCons, dBool, dStr, lNil, hg'.1, hs, Bool.and_self, cond_true, hm, cond_false, hw, Bool.false_and, Nat.add_zero]
      exact hn
    | true =>
      cases d with
      | true =>
        obtain ⟨n, hn⟩ := hf a (b + 1) (by omega) (by omega)
        refine Goes.step ⟨n, ?_⟩
        rw [r14_7a, decide_eq_true (show (pre.length : Int) < (l.length : Int) by omega), cond_true, hid]
        simp only [dAgg, lCons, dBool, dStr, lNil, hg'.1, hs, Bool.and_self, cond_true, hm, hid, hw, hwb]
        rw [show b + 1 + cntM (meetsA x y z) true r = b + (cntM (meetsA x y z) true r + 1) by omega] at hn
        exact hn
      | false =>
        obtain ⟨n, hn⟩ := hf (a + 1) b (by omega) (by omega)
        refine Goes.step ⟨n, ?_⟩
        rw [r14_7a, decide_eq_true (show (pre.length : Int) < (l.length : Int) by omega), cond_true, hid]
        simp only [dAgg, lCons, dBool, dStr, lNil, hg'.1, hs, Bool.and_self, cond_true, hm, hid, hw, hwa]
        rw [show a + 1 + cntM (meetsA x y z) false r = a + (cntM (meetsA x y z) false r + 1) by omega] at hn
        exact hn
theorem c14 (l : List D) (x y z : List UInt8) (h : alC l x y z = true) : RetX (Γ mx) 14 [.sl 29 .any l, .s x, .s y, .s z] [] (alA l x y z) [] := by
  obtain ⟨h1, h2⟩ := alC_eq h
  have h2 : (short x && (short y && short z)) = true := h2
  obtain ⟨g1, g2⟩ := allG_eq h1
  unfold alA alB alE
  cases hb : grB l with
  | false => exact ret_goes (Γ := Γ mx) hP hZ h14_ok (by kernel_rfl) ⟨0, by rw [r14, h1, hb]; rfl⟩
  | true =>
  cases hk : knownW y with
  | false => exact ret_goes (Γ := Γ mx) hP hZ h14_ok (by kernel_rfl) ⟨0, by rw [r14, h1, hb, hk]; rfl⟩
  | true =>
  cases l with
  | nil =>
    have g : Goes (Γ mx) H14 14 7 ⟨[(0, .sl 29 .any []), (1, .s x), (2, .s y), (3, .s z), (10, .i .i64 0), (11, .i .i64 0), (12, .i .i64 0)], []⟩ (.tuple [.b true, .i .i64 0], []) := Goes.step ⟨0, by rw [r14_7a]; rfl⟩
    obtain ⟨n, hn⟩ := g
    exact ret_goes (Γ := Γ mx) hP hZ h14_ok (by kernel_rfl) ⟨n, by rw [r14, h1, hb, hk]; exact hn⟩
  | cons g r =>
    obtain ⟨n, hn⟩ := g14 (mx := mx) (g :: r) g1 x y z h2 (g :: r) [] 0 0 0 g2 rfl rfl (Nat.le_refl _) (Nat.le_refl _) (by simp)
    rw [Nat.zero_add, Nat.zero_add, cnt_fin] at hn
    exact ret_goes (Γ := Γ mx) hP hZ h14_ok (by kernel_rfl) ⟨n, by rw [r14, h1, hb, hk]; exact hn⟩
theorem h3_ok : CallsOK (Γ mx) H3 := specs_ok (.cons (sp0_ok c12) (.cons (spL3_ok c13) (.cons (spL3_ok c14) (.cons (sp1_ok c15) (.cons (sp1_ok c16) .nil)))))
theorem law3 (l : List D) (x y z : List UInt8) (h : alC l x y z = true) : RetX (Γ mx) 3 [.sl 29 .any l, .s x, .s y, .s z] [] (.b true) [] := by
  refine ret_goes (Γ := Γ mx) hP hZ h3_ok (by kernel_rfl) ⟨0, ?_⟩
  rw [r3, h]
  generalize decide ((IntKind.wrap .i64 (((List.length x : Int)) + ((List.length z : Int)))) > 3000) = b
  cases b with
  | true => rfl
  | false => simp
end Go.Proofs.YtjbemleloffafaaDoor.V
