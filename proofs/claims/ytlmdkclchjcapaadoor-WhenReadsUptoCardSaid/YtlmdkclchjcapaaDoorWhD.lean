/- Dates: contracts of the functions without loops: each answers as its plain definition says. -/
import Derived.Test.YtlmdkclchjcapaaDoorWhC
namespace Go.Proofs.YtlmdkclchjcapaaDoor.V
open Go
set_option maxRecDepth 100000
set_option linter.unusedVariables false
set_option linter.unusedSimpArgs false
variable {u : Bool} {mx : Int}
theorem none_ok : CallsOK (Γ u mx) (runS []) := specs_ok .nil
theorem ir_eq {k : IntKind} {a b : Int} (h : a = b) : (some (AV.i k a, ([] : Objs)) : Option (AV × Objs)) = some (AV.i k b, []) := by rw [h]
theorem br_eq {a b : Bool} (h : a = b) : (some (AV.b a, ([] : Objs)) : Option (AV × Objs)) = some (AV.b b, []) := by rw [h]
theorem tr_eq {k k' : IntKind} {a b c d : Int} (h : a = b) (h' : c = d) : (some (AV.tuple [.i k a, .i k' c], ([] : Objs)) : Option (AV × Objs)) = some (AV.tuple [.i k b, .i k' d], []) := by rw [h, h']
theorem wrapI {n : Int} (h0 : -9223372036854775808 ≤ n) (h1 : n ≤ 9223372036854775807) : IntKind.i64.wrap n = n := by
  rw [IntKind.wrap_i64]; omega
theorem wrapU {n : Int} (h0 : 0 ≤ n) (h1 : n ≤ 18446744073709551615) : IntKind.u64.wrap n = n := by
  rw [IntKind.wrap_u64]; omega
theorem beqD (a b : Int) : (a == b) = decide (a = b) := by rw [Bool.eq_iff_iff]; simp
theorem nat_of {y : Int} (h : 0 ≤ y) : ∃ k : Nat, y = (k : Int) := Int.eq_ofNat_of_zero_le h
theorem c47 (y : Int) (h : posB y = true) : RetX (Γ u mx) 47 [.i .i64 y] [] (.b (leapZ y)) [] := by
  refine ret_goes (Γ := Γ u mx) hP hZ none_ok (by kernel_rfl) ⟨0, ?_⟩
  obtain ⟨k, rfl⟩ := nat_of (of_decide_eq_true h)
  rw [r47, show Int.tmod (k : Int) 4 = ((k % 4 : Nat) : Int) from rfl, show Int.tmod (k : Int) 100 = ((k % 100 : Nat) : Int) from rfl, show Int.tmod (k : Int) 400 = ((k % 400 : Nat) : Int) from rfl]
  have e := leap_iff k
  unfold leapZ
  simp only [Int.toNat_natCast, beqD, bne, Bool.cond_decide, Bool.cond_not]
  repeat' split
  all_goals (refine br_eq ?_; rw [Bool.eq_iff_iff, e]; simp only [decide_eq_true_eq, true_iff, Bool.false_eq_true, false_iff]; omega)
theorem c48 (y : Int) (h : posB y = true) : RetX (Γ u mx) 48 [.i .i64 y] [] (.b (leapZ y)) [] := by
  refine ret_goes (Γ := Γ u mx) hP hZ none_ok (by kernel_rfl) ⟨0, ?_⟩
  obtain ⟨k, rfl⟩ := nat_of (of_decide_eq_true h)
  rw [r48, show Int.tmod (k : Int) 4 = ((k % 4 : Nat) : Int) from rfl, show Int.tmod (k : Int) 100 = ((k % 100 : Nat) : Int) from rfl, show Int.tmod (k : Int) 400 = ((k % 400 : Nat) : Int) from rfl]
  have e := leap_iff k
  unfold leapZ
  simp only [Int.toNat_natCast, beqD, bne, Bool.cond_decide, Bool.cond_not]
  repeat' split
  all_goals (refine br_eq ?_; rw [Bool.eq_iff_iff, e]; simp only [decide_eq_true_eq, true_iff, Bool.false_eq_true, false_iff]; omega)
theorem c29 (y : Int) (h : yearB y = true) : RetX (Γ u mx) 29 [.i .i64 y] [] (.i .i64 (befZ y)) [] := by
  refine ret_goes (Γ := Γ u mx) hP hZ none_ok (by kernel_rfl) ⟨0, ?_⟩
  simp only [yearB, Bool.and_eq_true, decide_eq_true_eq] at h
  obtain ⟨k, rfl⟩ : ∃ k : Nat, y = ((k + 1 : Nat) : Int) := ⟨(y - 1).toNat, by omega⟩
  have e1 : IntKind.i64.wrap (((k + 1 : Nat) : Int) - 1) = (k : Int) := by rw [wrapI (by omega) (by omega)]; omega
  have e2 : shrV .i64 (k : Int) 2 = ((k / 4 : Nat) : Int) := by
    show Int.fdiv (k : Int) 4 = _
    rw [Int.fdiv_eq_ediv_of_nonneg _ (by omega)]; omega
  rw [r29, e1, e2, show Int.tdiv (k : Int) 100 = ((k / 100 : Nat) : Int) from rfl, show Int.tdiv (k : Int) 400 = ((k / 400 : Nat) : Int) from rfl]
  refine ir_eq ?_
  unfold befZ befN
  rw [Int.toNat_natCast, Nat.add_sub_cancel]
  simp (disch := omega) only [wrapI]
  omega
theorem h30_ok : CallsOK (Γ u mx) H30 := specs_ok (.cons (spI1_ok c47) .nil)
theorem h31_ok : CallsOK (Γ u mx) H31 := specs_ok (.cons (spI1_ok c48) .nil)
theorem h32_ok : CallsOK (Γ u mx) H32 := specs_ok (.cons (spI1_ok c48) .nil)
theorem c30 (y m : Int) (h : ymB y m = true) : RetX (Γ u mx) 30 [.i .i64 y, .i .i64 m] [] (.i .i64 (ahdZ y m)) [] := by
  refine ret_goes (Γ := Γ u mx) hP hZ h30_ok (by kernel_rfl) ⟨0, ?_⟩
  simp only [ymB, Bool.and_eq_true, decide_eq_true_eq] at h
  have hp : posB y = true := decide_eq_true h.1.1
  have hm : m = 1 ∨ m = 2 ∨ m = 3 ∨ m = 4 ∨ m = 5 ∨ m = 6 ∨ m = 7 ∨ m = 8 ∨ m = 9 ∨ m = 10 ∨ m = 11 ∨ m = 12 ∨ m = 13 := by omega
  rw [r30, hp]
  unfold ahdZ ahdN leapZ
  rcases hm with rfl | rfl | rfl | rfl | rfl | rfl | rfl | rfl | rfl | rfl | rfl | rfl | rfl <;> cases leapN y.toNat <;> rfl
theorem c31 (y m : Int) (h : ylB y m = true) : RetX (Γ u mx) 31 [.i .i64 y, .i .i64 m] [] (.i .i64 (lenZ y m)) [] := by
  refine ret_goes (Γ := Γ u mx) hP hZ h31_ok (by kernel_rfl) ⟨0, ?_⟩
  simp only [ylB, Bool.and_eq_true, decide_eq_true_eq] at h
  have hp : posB y = true := decide_eq_true h.1.1
  have hm : m = 1 ∨ m = 2 ∨ m = 3 ∨ m = 4 ∨ m = 5 ∨ m = 6 ∨ m = 7 ∨ m = 8 ∨ m = 9 ∨ m = 10 ∨ m = 11 ∨ m = 12 := by omega
  rw [r31, hp]
  unfold lenZ lenN leapZ
  rcases hm with rfl | rfl | rfl | rfl | rfl | rfl | rfl | rfl | rfl | rfl | rfl | rfl <;> cases leapN y.toNat <;> rfl
theorem c32 (y : Int) (h : posB y = true) : RetX (Γ u mx) 32 [.i .i64 y] [] (.i .i64 (yrZ y)) [] := by
  refine ret_goes (Γ := Γ u mx) hP hZ h32_ok (by kernel_rfl) ⟨0, ?_⟩
  rw [r32, h]
  unfold yrZ yrN leapZ
  cases leapN y.toNat <;> rfl
theorem c33 (t : Int) (h : true = true) : RetX (Γ u mx) 33 [.i .i64 t] [] (.b (knownB t)) [] := by
  refine ret_goes (Γ := Γ u mx) hP hZ none_ok (by kernel_rfl) ⟨0, ?_⟩
  rw [r33]
  unfold knownB
  show (bif decide (-62135596800 ≤ t) then _ else _) = _
  cases decide (-62135596800 ≤ t) <;> rfl
theorem c34 (t : Int) (h : knownB t = true) : RetX (Γ u mx) 34 [.i .i64 t] [] (dayA t) [] := by
  refine ret_goes (Γ := Γ u mx) hP hZ none_ok (by kernel_rfl) ⟨0, ?_⟩
  simp only [knownB, Bool.and_eq_true, decide_eq_true_eq] at h
  obtain ⟨k, hk⟩ : ∃ k : Nat, t + 62135596800 = (k : Int) := nat_of (by omega)
  rw [r34, show t - -62135596800 = (k : Int) by omega, wrapI (n := (k : Int)) (by omega) (by omega), show Int.tdiv (k : Int) 86400 = ((k / 86400 : Nat) : Int) from rfl, show Int.tmod (k : Int) 86400 = ((k % 86400 : Nat) : Int) from rfl, wrapI (by omega) (by omega)]
  exact tr_eq (by unfold dayQ; omega) (by unfold dayR; omega)
theorem ahd_len {y m : Int} (h1 : 1 ≤ m) (h2 : m ≤ 12) : ahdZ y (m + 1) = ahdZ y m + lenZ y m := by
  obtain ⟨k, rfl⟩ := nat_of (y := m) (by omega)
  have := ahd_succ y.toNat k (by omega) (by omega)
  unfold ahdZ lenZ
  rw [show ((k : Int) + 1).toNat = k + 1 by omega, Int.toNat_natCast]
  omega
theorem len_b (y m : Int) : 28 ≤ lenZ y m ∧ lenZ y m ≤ 31 := by
  have := len_pos y.toNat m.toNat
  unfold lenZ; omega
theorem h28_ok : CallsOK (Γ u mx) H28 := specs_ok (.cons (spI2_ok c30) .nil)
theorem good_iff {y m d h n s : Int} : goodB y m d h n s = true ↔ (1 ≤ y ∧ y ≤ 9999 ∧ 1 ≤ m ∧ m ≤ 12 ∧ 1 ≤ d ∧ d ≤ lenZ y m ∧ 0 ≤ h ∧ h < 24 ∧ 0 ≤ n ∧ n < 60 ∧ 0 ≤ s ∧ s < 60) := decide_eq_true_iff
theorem c28 (y m d h n s : Int) : RetX (Γ u mx) 28 [.d 25 (.agg [.int .i64 y, .int .i64 m, .int .i64 d, .int .i64 h, .int .i64 n, .int .i64 s])] [] (.b (goodB y m d h n s)) [] := by
  refine ret_goes (Γ := Γ u mx) hP hZ h28_ok (by kernel_rfl) ⟨0, ?_⟩
  rw [r28]
  by_cases a1 : y < 1 ∨ y > 9999 ∨ m < 1 ∨ m > 12 ∨ d < 1
  · have hg : goodB y m d h n s = false := Bool.eq_false_iff.2 fun hg => by have := good_iff.1 hg; omega
    rw [hg]
    simp only [Bool.cond_decide]
    repeat' split
    all_goals first | rfl | (exfalso; omega)
  · have e1 : ymB y m = true := by simp only [ymB, Bool.and_eq_true, decide_eq_true_eq]; omega
    have e2 : ymB y (m + 1) = true := by simp only [ymB, Bool.and_eq_true, decide_eq_true_eq]; omega
    have hl := len_b y m
    rw [wrapI (n := m + 1) (by omega) (by omega), e1, e2, ahd_len (by omega) (by omega), show ahdZ y m + lenZ y m - ahdZ y m = lenZ y m by omega, wrapI (n := lenZ y m) (by omega) (by omega)]
    rw [decide_eq_false (show ¬ y < 1 by omega), decide_eq_false (show ¬ y > 9999 by omega), decide_eq_false (show ¬ m < 1 by omega), decide_eq_false (show ¬ m > 12 by omega), decide_eq_false (show ¬ d < 1 by omega)]
    simp only [cond_false, cond_true]
    have g := @good_iff y m d h n s
    have no : ¬ (1 ≤ y ∧ y ≤ 9999 ∧ 1 ≤ m ∧ m ≤ 12 ∧ 1 ≤ d ∧ d ≤ lenZ y m ∧ 0 ≤ h ∧ h < 24 ∧ 0 ≤ n ∧ n < 60 ∧ 0 ≤ s ∧ s < 60) → (some (AV.b false, ([] : Objs)) : Option (AV × Objs)) = some (AV.b (goodB y m d h n s), []) := fun hn => br_eq (Bool.eq_false_iff.2 fun h => hn (g.1 h)).symm
    by_cases k1 : d > lenZ y m
    · rw [decide_eq_true k1]; exact no (by omega)
    rw [decide_eq_false k1, cond_false]
    by_cases k2 : h ≥ 0
    · rw [decide_eq_true k2, cond_true]
      by_cases k3 : h < 24
      · rw [decide_eq_true k3, cond_true]
        by_cases k4 : n ≥ 0
        · rw [decide_eq_true k4, cond_true]
          by_cases k5 : n < 60
          · rw [decide_eq_true k5, cond_true]
            by_cases k6 : s ≥ 0
            · rw [decide_eq_true k6, cond_true]
              by_cases k7 : s < 60
              · rw [decide_eq_true k7]; exact br_eq (g.2 (by omega)).symm
              · rw [decide_eq_false k7]; exact no (by omega)
            · rw [decide_eq_false k6]; exact no (by omega)
          · rw [decide_eq_false k5]; exact no (by omega)
        · rw [decide_eq_false k4]; exact no (by omega)
      · rw [decide_eq_false k3]; exact no (by omega)
    · rw [decide_eq_false k2]; exact no (by omega)
theorem dn_good {y m d h n s : Int} (g : goodB y m d h n s = true) : (dnOf y m d h n s).good := by
  have g := good_iff.1 g
  unfold dnOf DateN.good
  unfold lenZ at g
  simp only
  omega
theorem secZ_eq {y m d h n s : Int} (g : goodB y m d h n s = true) : secZ y m d h n s = (befZ y + ahdZ y m + (d - 1)) * 86400 + (h * 3600 + n * 60 + s) - 62135596800 ∧ -62135596800 ≤ secZ y m d h n s ∧ secZ y m d h n s ≤ 253402300799 ∧ 0 ≤ befZ y ∧ befZ y ≤ 3652059 ∧ 0 ≤ ahdZ y m ∧ ahdZ y m ≤ 400 := by
  have hl := (secs_lt (dn_good g)).1
  have e : (dnOf y m d h n s).secs = (befN y.toNat + ahdN y.toNat m.toNat + (d.toNat - 1)) * 86400 + (h.toNat * 3600 + n.toNat * 60 + s.toNat) := rfl
  unfold secZ
  rw [g, cond_true]
  have g := good_iff.1 g
  have ha : ahdN y.toNat m.toNat ≤ 366 := by
    have := ahd_lt y.toNat (a := m.toNat) (b := 13) (by omega) (by omega) (by omega)
    have h13 := ahd_13 y.toNat
    have := yr_pos y.toNat
    omega
  unfold befZ ahdZ
  omega
theorem h10_ok : CallsOK (Γ u mx) H10 := specs_ok (.cons (spDt_ok c28) (.cons (spI1_ok c29) (.cons (spI2_ok c30) .nil)))
theorem c10 (y m d h n s : Int) : RetX (Γ u mx) 10 [.d 25 (.agg [.int .i64 y, .int .i64 m, .int .i64 d, .int .i64 h, .int .i64 n, .int .i64 s])] [] (secA y m d h n s) [] := by
  refine ret_goes (Γ := Γ u mx) hP hZ h10_ok (by kernel_rfl) ⟨0, ?_⟩
  rw [r10]
  cases g : goodB y m d h n s with
  | false => simp [secA, secZ, secE, g]
  | true =>
    obtain ⟨q1, q2, q3, q4, q5, q6, q7⟩ := secZ_eq g
    have g' := good_iff.1 g
    have hl := len_b y m
    have e1 : ymB y m = true := by simp only [ymB, Bool.and_eq_true, decide_eq_true_eq]; omega
    have e2 : yearB y = true := by simp only [yearB, Bool.and_eq_true, decide_eq_true_eq]; omega
    rw [e1, e2]
    simp only [Bool.not_true, cond_false, cond_true]
    refine tr_eq ?_ (by simp [secE, g])
    rw [q1]
    generalize befZ y = a at *
    generalize ahdZ y m = b at *
    generalize lenZ y m = l at *
    rw [wrapI (n := a + b) (by omega) (by omega), wrapI (n := a + b + d) (by omega) (by omega), wrapI (n := a + b + d - 1) (by omega) (by omega), wrapI (n := a + b + d - 1 - 719162) (by omega) (by omega), wrapI (n := (a + b + d - 1 - 719162) * 86400) (by omega) (by omega),
      wrapI (n := h * 60) (by omega) (by omega), wrapI (n := h * 60 + n) (by omega) (by omega), wrapI (n := (h * 60 + n) * 60) (by omega) (by omega), wrapI (n := (h * 60 + n) * 60 + s) (by omega) (by omega), wrapI (by omega) (by omega)]
    omega
theorem h14_ok : CallsOK (Γ u mx) H14 := specs_ok (.cons (spI1_ok c33) (.cons (spI1_ok c34) .nil))
theorem c14 (t : Int) (h : i64B t = true) : RetX (Γ u mx) 14 [.i .i64 t] [] (wdA t) [] := by
  refine ret_goes (Γ := Γ u mx) hP hZ h14_ok (by kernel_rfl) ⟨0, ?_⟩
  rw [r14]
  cases g : knownB t with
  | false => simp [wdA, wdZ, fE, g]
  | true =>
    simp only [Bool.not_true, cond_false, cond_true]
    simp only [knownB, Bool.and_eq_true, decide_eq_true_eq] at g
    refine tr_eq ?_ (by simp [fE, knownB, g])
    rw [wdZ, knownB, decide_eq_true g.1, decide_eq_true g.2]
    show _ = dayQ t % 7
    exact Int.tmod_eq_emod_of_nonneg (by unfold dayQ; omega)
theorem c24 (t : Int) (h : true = true) : RetX (Γ u mx) 24 [.i .i64 t] [] (.i .i64 (clampZ t)) [] := by
  refine ret_goes (Γ := Γ u mx) hP hZ none_ok (by kernel_rfl) ⟨0, ?_⟩
  rw [r24]
  unfold clampZ
  simp only [Bool.cond_decide]
  repeat' split
  all_goals first | rfl | (exfalso; omega)
theorem c23 (t : Int) (h : true = true) : RetX (Γ u mx) 23 [.i .i64 t] [] (.i .i64 (clampZ t)) [] := by
  refine ret_goes (Γ := Γ u mx) hP hZ none_ok (by kernel_rfl) ⟨0, ?_⟩
  rw [r23]
  unfold clampZ
  refine ir_eq ?_
  simp only [Bool.cond_decide]
  repeat' split
  all_goals omega
theorem h15_ok : CallsOK (Γ u mx) H15 := specs_ok (.cons (spI1_ok c24) .nil)
theorem clamp_id {t : Int} : clampZ t = t ↔ knownB t = true := by
  unfold clampZ knownB
  simp only [Bool.and_eq_true, decide_eq_true_eq]
  repeat' split
  all_goals omega
theorem c15 (t : Int) (h : i64B t = true) : RetX (Γ u mx) 15 [.i .i64 t] [] (wdA t) [] := by
  refine ret_goes (Γ := Γ u mx) hP hZ h15_ok (by kernel_rfl) ⟨0, ?_⟩
  rw [r15]
  cases g : knownB t with
  | false =>
    have : (clampZ t != t) = true := by simp only [bne_iff_ne, ne_eq, clamp_id, g]; decide
    rw [this]; simp [wdA, wdZ, fE, g]
  | true =>
    have e : (clampZ t != t) = false := by simp only [bne_eq_false_iff_eq, clamp_id, g]
    have g' := g
    simp only [knownB, Bool.and_eq_true, decide_eq_true_eq] at g'
    rw [e, wrapI (n := t + 62135596800) (by omega) (by omega), Int.tdiv_eq_ediv_of_nonneg (by omega), wrapI (by omega) (by omega), Int.tmod_eq_emod_of_nonneg (by omega)]
    simp [wdA, wdZ, fE, g, dayQ]
theorem c38 (a b : Int) (h : i64B2 a b = true) : RetX (Γ u mx) 38 [.i .i64 a, .i .i64 b] [] (.i .i64 (addZ a b)) [] := by
  refine ret_goes (Γ := Γ u mx) hP hZ none_ok (by kernel_rfl) ⟨0, ?_⟩
  simp only [i64B2, i64B, Bool.and_eq_true, decide_eq_true_eq] at h
  rw [r38]
  simp only [Bool.cond_decide, IntKind.wrap_i64, IntKind.wrap_u64]
  unfold addZ ends
  repeat' split
  all_goals (refine ir_eq ?_; omega)
theorem c40 (a b : Int) (h : i64B2 a b = true) : RetX (Γ u mx) 40 [.i .i64 a, .i .i64 b] [] (.i .i64 (addZ a b)) [] := by
  refine ret_goes (Γ := Γ u mx) hP hZ none_ok (by kernel_rfl) ⟨0, ?_⟩
  simp only [i64B2, i64B, Bool.and_eq_true, decide_eq_true_eq] at h
  rw [r40]
  simp only [Bool.cond_decide, IntKind.wrap_i64, IntKind.wrap_u64]
  unfold addZ ends
  repeat' split
  all_goals (refine ir_eq ?_; omega)
theorem c54 (a : Int) (h : i64B a = true) : RetX (Γ u mx) 54 [.i .i64 a] [] (.i .u64 (magZ a)) [] := by
  refine ret_goes (Γ := Γ u mx) hP hZ none_ok (by kernel_rfl) ⟨0, ?_⟩
  simp only [i64B, Bool.and_eq_true, decide_eq_true_eq] at h
  rw [r54]
  simp only [Bool.cond_decide, IntKind.wrap_i64, IntKind.wrap_u64]
  unfold magZ
  repeat' split
  all_goals (refine ir_eq ?_; omega)
theorem c55 (a : Int) (h : i64B a = true) : RetX (Γ u mx) 55 [.i .i64 a] [] (.i .u64 (magZ a)) [] := by
  refine ret_goes (Γ := Γ u mx) hP hZ none_ok (by kernel_rfl) ⟨0, ?_⟩
  simp only [i64B, Bool.and_eq_true, decide_eq_true_eq] at h
  rw [r55]
  simp only [Bool.cond_decide, IntKind.wrap_i64, IntKind.wrap_u64]
  unfold magZ
  repeat' split
  all_goals (refine ir_eq ?_; omega)
end Go.Proofs.YtlmdkclchjcapaaDoor.V
