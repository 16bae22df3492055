/- Dates: contracts of the functions that count by loops (Fields and Seconds, the program's and the document's). -/
import Derived.Test.YtlmdkclchjcapaaDoorWhD
namespace Go.Proofs.YtlmdkclchjcapaaDoor.V
open Go
set_option maxRecDepth 100000
set_option linter.unusedVariables false
set_option linter.unusedSimpArgs false
variable {u : Bool} {mx : Int}
def zD : D := .agg [.int .i64 0, .int .i64 0, .int .i64 0, .int .i64 0, .int .i64 0, .int .i64 0]
def dD (y m d h n s : Int) : D := .agg [.int .i64 y, .int .i64 m, .int .i64 d, .int .i64 h, .int .i64 n, .int .i64 s]
theorem yd_le (day : Nat) : ∀ k, yd day k ≤ k
  | 0 => Nat.le_refl _
  | k + 1 => by
    rw [yd]; split
    · have := yd_le day k; omega
    · exact Nat.le_refl _
theorem bef_mono {a b : Nat} (h1 : 1 ≤ a) (h : a ≤ b) : befN a ≤ befN b := by
  by_cases hb : a = b
  · rw [hb]; exact Nat.le_refl _
  · have := bef_lt h1 (show a < b by omega); omega
theorem ahd_mono (y : Nat) {a b : Nat} (h1 : 1 ≤ a) (h : a ≤ b) (h2 : b ≤ 13) : ahdN y a ≤ ahdN y b := by
  by_cases hb : a = b
  · rw [hb]; exact Nat.le_refl _
  · have := ahd_lt y h1 (show a < b by omega) h2; omega
theorem ahd_b (y : Nat) {a : Nat} (h1 : 1 ≤ a) (h : a ≤ 13) : ahdN y a ≤ 366 := by
  have := ahd_mono y h1 h (Nat.le_refl _)
  have h13 := ahd_13 y
  have := yr_pos y
  omega
theorem h12_ok : CallsOK (Γ u mx) H12 := specs_ok (.cons (spI1_ok c29) (.cons (spI2_ok c30) (.cons (spI1_ok c33) (.cons (spI1_ok c34) .nil))))
theorem h13_ok : CallsOK (Γ u mx) H13 := specs_ok (.cons (spI2_ok c31) (.cons (spI1_ok c32) .nil))
theorem h11_ok : CallsOK (Γ u mx) H11 := specs_ok (.cons (spI2_ok c31) (.cons (spI1_ok c32) .nil))
def fRes (Y M d : Nat) (a b c : Int) : AV × Objs := (.tuple [.d 25 (dD Y M d a b c), .i .i64 0], [])
theorem g12_8 {Y r M : Nat} (a b c : Int) (hY : Y ≤ 9999) (hr : r ≤ 366) (hm : IsMonth Y r M) : ∀ k, M ≤ k → k ≤ 12 →
    Goes (Γ u mx) H12 12 8 ⟨[(2, .ptr 0 [] 25), (4, .i .i64 (r : Int)), (6, .ptr 1 [] 25)], [some (.box 25 (.d 25 zD)), some (.box 25 (.d 25 (dD Y (k : Int) 0 a b c)))]⟩ (fRes Y M (r - ahdN Y M + 1) a b c)
  | 0, h, _ => absurd hm.1 (by omega)
  | k + 1, h, h2 => by
    have e1 : ymB (Y : Int) ((k + 1 : Nat) : Int) = true := by simp only [ymB, Bool.and_eq_true, decide_eq_true_eq]; omega
    have e2 : ahdZ (Y : Int) ((k + 1 : Nat) : Int) = ((ahdN Y (k + 1) : Nat) : Int) := rfl
    have e3 : IntKind.i64.wrap (((k + 1 : Nat) : Int) - 1) = (k : Int) := by rw [wrapI (by omega) (by omega)]; omega
    have hb0 := ahd_b Y (a := k + 1) (by omega) (by omega)
    by_cases hb : ahdN Y (k + 1) > r
    · have hk : M ≤ k := by
        by_cases he : M = k + 1
        · rw [← he] at hb; have := hm.2.2.1; omega
        · omega
      obtain ⟨n, hn⟩ := g12_8 a b c hY hr hm k hk (by omega)
      refine Goes.step ⟨n, ?_⟩
      unfold dD zD at *
      rw [r12_8a, e1, e2, e3, decide_eq_true (show ((ahdN Y (k + 1) : Nat) : Int) > (r : Int) by omega)]
      exact hn
    · have hk : M = k + 1 := by
        by_cases he : M = k + 1
        · exact he
        · have := ahd_lt Y hm.1 (show M < k + 1 by omega) (by omega); have := hm.2.2.2; omega
      refine Goes.step ⟨0, ?_⟩
      unfold dD zD
      rw [r12_8a, e1, e2, decide_eq_false (show ¬ ((ahdN Y (k + 1) : Nat) : Int) > (r : Int) by omega), wrapI (n := (r : Int) - ((ahdN Y (k + 1) : Nat) : Int)) (by omega) (by omega), wrapI (n := (r : Int) - ((ahdN Y (k + 1) : Nat) : Int) + 1) (by omega) (by omega)]
      simp only [cond_true, cond_false]
      unfold fRes dD
      rw [hk, show (((r - ahdN Y (k + 1) + 1 : Nat)) : Int) = (r : Int) - ((ahdN Y (k + 1) : Nat) : Int) + 1 by omega]
theorem g12_5 {day Y M : Nat} (a b c : Int) (hd : day < 3652059) (hy : IsYear day Y) (hm : IsMonth Y (day - befN Y) M) : ∀ k, Y ≤ k → k ≤ 9999 →
    Goes (Γ u mx) H12 12 5 ⟨[(2, .ptr 0 [] 25), (4, .i .i64 (day : Int)), (6, .ptr 1 [] 25)], [some (.box 25 (.d 25 zD)), some (.box 25 (.d 25 (dD (k : Int) 12 0 a b c)))]⟩ (fRes Y M (day - befN Y - ahdN Y M + 1) a b c)
  | 0, h, _ => absurd hy.1 (by omega)
  | k + 1, h, h2 => by
    have e1 : yearB ((k + 1 : Nat) : Int) = true := by simp only [yearB, Bool.and_eq_true, decide_eq_true_eq]; omega
    have e2 : befZ ((k + 1 : Nat) : Int) = ((befN (k + 1) : Nat) : Int) := rfl
    have e3 : IntKind.i64.wrap (((k + 1 : Nat) : Int) - 1) = (k : Int) := by rw [wrapI (by omega) (by omega)]; omega
    have hb0 : befN (k + 1) ≤ 3652059 := bef_mono (b := 10000) (by omega) (by omega)
    by_cases hb : befN (k + 1) > day
    · have hk : Y ≤ k := by
        by_cases he : Y = k + 1
        · rw [← he] at hb; have := hy.2.1; omega
        · omega
      obtain ⟨n, hn⟩ := g12_5 a b c hd hy hm k hk (by omega)
      refine Goes.step ⟨n, ?_⟩
      unfold dD zD at *
      rw [r12_5a, e1, e2, e3, decide_eq_true (show ((befN (k + 1) : Nat) : Int) > (day : Int) by omega)]
      exact hn
    · have hk : Y = k + 1 := by
        by_cases he : Y = k + 1
        · exact he
        · have := bef_lt hy.1 (show Y < k + 1 by omega); have := hy.2.2; omega
      have hyr := yr_pos Y
      have h22 := hy.2.2
      obtain ⟨n, hn⟩ := g12_8 (u := u) (mx := mx) a b c (show Y ≤ 9999 by omega) (show day - befN Y ≤ 366 by omega) hm 12 hm.2.1 (Nat.le_refl _)
      refine Goes.step ⟨n, ?_⟩
      unfold dD zD at *
      rw [r12_5a, e1, e2, decide_eq_false (show ¬ ((befN (k + 1) : Nat) : Int) > (day : Int) by omega), wrapI (n := (day : Int) - ((befN (k + 1) : Nat) : Int)) (by omega) (by omega)]
      simp only [cond_true, cond_false]
      rw [hk] at hn
      rw [show (day : Int) - ((befN (k + 1) : Nat) : Int) = (((day - befN (k + 1) : Nat)) : Int) by omega, hk]
      exact hn
theorem g13_9 {Y r M : Nat} (a b c : Int) (hr : r ≤ 366) (hm : IsMonth Y r M) : ∀ j k, 1 ≤ k → k + j = M →
    Goes (Γ u mx) H13 13 9 ⟨[(2, .ptr 0 [] 25), (4, .i .i64 ((r - ahdN Y k : Nat) : Int)), (6, .ptr 1 [] 25)], [some (.box 25 (.d 25 zD)), some (.box 25 (.d 25 (dD Y (k : Int) 0 a b c)))]⟩ (fRes Y M (r - ahdN Y M + 1) a b c)
  | 0, k, h1, h => by
    obtain rfl : k = M := h
    have h12 := hm.2.1
    have e1 : ylB (Y : Int) (k : Int) = true := by simp only [ylB, Bool.and_eq_true, decide_eq_true_eq]; omega
    have e2 : lenZ (Y : Int) (k : Int) = ((lenN Y k : Nat) : Int) := rfl
    have h3 := hm.2.2.2
    have hl := len_pos Y k
    refine Goes.step ⟨0, ?_⟩
    unfold dD zD
    rw [r13_9a, e1, e2, decide_eq_false (show ¬ ((r - ahdN Y k : Nat) : Int) ≥ ((lenN Y k : Nat) : Int) by omega), wrapI (n := ((r - ahdN Y k : Nat) : Int) + 1) (by omega) (by omega)]
    rfl
  | j + 1, k, h1, h => by
    have h12 := hm.2.1
    have e1 : ylB (Y : Int) (k : Int) = true := by simp only [ylB, Bool.and_eq_true, decide_eq_true_eq]; omega
    have e2 : lenZ (Y : Int) (k : Int) = ((lenN Y k : Nat) : Int) := rfl
    have h3 := hm.2.2.1
    have hs := ahd_succ Y k (by omega) (by omega)
    have hmo := ahd_mono Y (a := k + 1) (b := M) (by omega) (by omega) (by omega)
    obtain ⟨n, hn⟩ := g13_9 a b c hr hm j (k + 1) (by omega) (by omega)
    refine Goes.step ⟨n, ?_⟩
    unfold dD zD at *
    rw [r13_9a, e1, e2, decide_eq_true (show ((r - ahdN Y k : Nat) : Int) ≥ ((lenN Y k : Nat) : Int) by omega), wrapI (n := ((r - ahdN Y k : Nat) : Int) - ((lenN Y k : Nat) : Int)) (by omega) (by omega), wrapI (n := (k : Int) + 1) (by omega) (by omega)]
    rw [show ((r - ahdN Y k : Nat) : Int) - ((lenN Y k : Nat) : Int) = ((r - ahdN Y (k + 1) : Nat) : Int) by omega]
    exact hn
theorem g13_6 {day Y M : Nat} (a b c : Int) (hd : day < 3652059) (hy : IsYear day Y) (hY : Y ≤ 9999) (hm : IsMonth Y (day - befN Y) M) : ∀ j k, 1 ≤ k → k + j = Y →
    Goes (Γ u mx) H13 13 6 ⟨[(2, .ptr 0 [] 25), (4, .i .i64 ((day - befN k : Nat) : Int)), (6, .ptr 1 [] 25)], [some (.box 25 (.d 25 zD)), some (.box 25 (.d 25 (dD (k : Int) 1 0 a b c)))]⟩ (fRes Y M (day - befN Y - ahdN Y M + 1) a b c)
  | 0, k, h1, h => by
    obtain rfl : k = Y := h
    have e1 : posB (k : Int) = true := decide_eq_true (by omega)
    have e2 : yrZ (k : Int) = ((yrN k : Nat) : Int) := rfl
    have h3 := hy.2.2
    have hl := yr_pos k
    obtain ⟨n, hn⟩ := g13_9 (u := u) (mx := mx) a b c (show day - befN k ≤ 366 by omega) hm (M - 1) 1 (Nat.le_refl _) (by have := hm.1; omega)
    rw [ahd_one, Nat.sub_zero] at hn
    refine Goes.step ⟨n, ?_⟩
    unfold dD zD at *
    rw [r13_6a, e1, e2, decide_eq_false (show ¬ ((day - befN k : Nat) : Int) ≥ ((yrN k : Nat) : Int) by omega)]
    exact hn
  | j + 1, k, h1, h => by
    have e1 : posB (k : Int) = true := decide_eq_true (by omega)
    have e2 : yrZ (k : Int) = ((yrN k : Nat) : Int) := rfl
    have h3 := hy.2.1
    have hs := bef_succ k (by omega)
    have hmo := bef_mono (a := k + 1) (b := Y) (by omega) (by omega)
    obtain ⟨n, hn⟩ := g13_6 a b c hd hy hY hm j (k + 1) (by omega) (by omega)
    refine Goes.step ⟨n, ?_⟩
    unfold dD zD at *
    rw [r13_6a, e1, e2, decide_eq_true (show ((day - befN k : Nat) : Int) ≥ ((yrN k : Nat) : Int) by omega), wrapI (n := ((day - befN k : Nat) : Int) - ((yrN k : Nat) : Int)) (by omega) (by omega), wrapI (n := (k : Int) + 1) (by omega) (by omega)]
    rw [show ((day - befN k : Nat) : Int) - ((yrN k : Nat) : Int) = ((day - befN (k + 1) : Nat) : Int) by omega]
    exact hn
theorem g11_9 {y m d : Nat} (h n s : Int) (hy1 : 1 ≤ y) (hy : y ≤ 9999) (hm : m ≤ 12) (hd : d ≤ 31) (hh : 0 ≤ h ∧ h < 24 ∧ 0 ≤ n ∧ n < 60 ∧ 0 ≤ s ∧ s < 60) : ∀ j k, 1 ≤ k → k + j = m →
    Goes (Γ u mx) H11 11 9 ⟨[(1, .ptr 0 [] 25), (4, .i .i64 ((d - 1 + befN y + ahdN y k : Nat) : Int)), (6, .i .i64 (k : Int))], [some (.box 25 (.d 25 (dD y m d h n s)))]⟩
      (.tuple [.i .i64 (((d - 1 + befN y + ahdN y m : Nat) : Int) * 86400 + (h * 3600 + n * 60 + s) - 62135596800), .i .i64 0], [])
  | 0, k, h1, he => by
    obtain rfl : k = m := he
    have hb : befN y ≤ 3652059 := bef_mono (b := 10000) (by omega) (by omega)
    have ha := ahd_b y (a := k) (by omega) (by omega)
    have hq : d - 1 + befN y + ahdN y k ≤ 3653000 := by omega
    refine Goes.step ⟨0, ?_⟩
    unfold dD
    rw [r11_9a, decide_eq_false (show ¬ ((k : Nat) : Int) < (k : Int) by omega)]
    simp only [cond_false]
    refine tr_eq ?_ rfl
    generalize d - 1 + befN y + ahdN y k = a at *
    rw [wrapI (n := (a : Int) * 86400) (by omega) (by omega), wrapI (n := h * 3600) (by omega) (by omega), wrapI (n := n * 60) (by omega) (by omega), wrapI (n := h * 3600 + n * 60) (by omega) (by omega), wrapI (n := h * 3600 + n * 60 + s) (by omega) (by omega), wrapI (n := (a : Int) * 86400 + (h * 3600 + n * 60 + s)) (by omega) (by omega), wrapI (by omega) (by omega)]
  | j + 1, k, h1, he => by
    have hb : befN y ≤ 3652059 := bef_mono (b := 10000) (by omega) (by omega)
    have ha := ahd_b y (a := k) (by omega) (by omega)
    have e1 : ylB (y : Int) (k : Int) = true := by simp only [ylB, Bool.and_eq_true, decide_eq_true_eq]; omega
    have e2 : lenZ (y : Int) (k : Int) = ((lenN y k : Nat) : Int) := rfl
    have hs := ahd_succ y k (by omega) (by omega)
    have hl := len_pos y k
    obtain ⟨i, hi⟩ := g11_9 (y := y) (d := d) h n s hy1 hy hm hd hh j (k + 1) (by omega) (by omega)
    refine Goes.step ⟨i, ?_⟩
    unfold dD at *
    rw [r11_9a, e1, e2, decide_eq_true (show (k : Int) < (m : Int) by omega), wrapI (n := ((d - 1 + befN y + ahdN y k : Nat) : Int) + ((lenN y k : Nat) : Int)) (by omega) (by omega), wrapI (n := (k : Int) + 1) (by omega) (by omega)]
    rw [show ((d - 1 + befN y + ahdN y k : Nat) : Int) + ((lenN y k : Nat) : Int) = ((d - 1 + befN y + ahdN y (k + 1) : Nat) : Int) by omega]
    exact hi
theorem g11_5 {y m d : Nat} (h n s : Int) (hy1 : 1 ≤ y) (hy : y ≤ 9999) (hm1 : 1 ≤ m) (hm : m ≤ 12) (hd : d ≤ 31) (hh : 0 ≤ h ∧ h < 24 ∧ 0 ≤ n ∧ n < 60 ∧ 0 ≤ s ∧ s < 60) : ∀ j k, 1 ≤ k → k + j = y →
    Goes (Γ u mx) H11 11 5 ⟨[(1, .ptr 0 [] 25), (4, .i .i64 ((d - 1 + befN k : Nat) : Int)), (5, .i .i64 (k : Int))], [some (.box 25 (.d 25 (dD y m d h n s)))]⟩
      (.tuple [.i .i64 (((d - 1 + befN y + ahdN y m : Nat) : Int) * 86400 + (h * 3600 + n * 60 + s) - 62135596800), .i .i64 0], [])
  | 0, k, h1, he => by
    obtain rfl : k = y := he
    obtain ⟨i, hi⟩ := g11_9 (u := u) (mx := mx) (y := k) (d := d) h n s hy1 hy hm hd hh (m - 1) 1 (Nat.le_refl _) (by omega)
    rw [ahd_one, Nat.add_zero] at hi
    refine Goes.step ⟨i, ?_⟩
    unfold dD at *
    rw [r11_5a, decide_eq_false (show ¬ ((k : Nat) : Int) < (k : Int) by omega)]
    exact hi
  | j + 1, k, h1, he => by
    have hb : befN k ≤ 3652059 := bef_mono (b := 10000) (by omega) (by omega)
    have e1 : posB (k : Int) = true := decide_eq_true (by omega)
    have e2 : yrZ (k : Int) = ((yrN k : Nat) : Int) := rfl
    have hs := bef_succ k (by omega)
    have hl := yr_pos k
    obtain ⟨i, hi⟩ := g11_5 (d := d) h n s hy1 hy hm1 hm hd hh j (k + 1) (by omega) (by omega)
    refine Goes.step ⟨i, ?_⟩
    unfold dD at *
    rw [r11_5a, e1, e2, decide_eq_true (show (k : Int) < (y : Int) by omega), wrapI (n := ((d - 1 + befN k : Nat) : Int) + ((yrN k : Nat) : Int)) (by omega) (by omega), wrapI (n := (k : Int) + 1) (by omega) (by omega)]
    rw [show ((d - 1 + befN k : Nat) : Int) + ((yrN k : Nat) : Int) = ((d - 1 + befN (k + 1) : Nat) : Int) by omega]
    exact hi
theorem known_nat {t : Int} (g : knownB t = true) : ∃ n : Nat, t = (n : Int) - 62135596800 ∧ n < 315537897600 := by
  simp only [knownB, Bool.and_eq_true, decide_eq_true_eq] at g
  obtain ⟨n, hn⟩ := nat_of (y := t + 62135596800) (by omega)
  exact ⟨n, by omega, by omega⟩
theorem fld_eq {n : Nat} (g : knownB ((n : Int) - 62135596800) = true) : fldA ((n : Int) - 62135596800) = (fRes (dateOf n).y (dateOf n).mo (dateOf n).d (dateOf n).h (dateOf n).mi (dateOf n).s).1 := by
  have e : ((n : Int) - 62135596800 + 62135596800).toNat = n := by omega
  simp only [fldA, fY, fMo, fD, fH, fMi, fS, fE, g, cond_true, dtOf, e, fRes, dD]
theorem year_min {n : Nat} (hn : n < 315537897600) : (bif decide ((9999 : Int) < (IntKind.wrap .i64 ((IntKind.wrap .i64 (Int.tdiv (((n / 86400 : Nat) : Int)) 365)) + 1))) then (9999 : Int) else (IntKind.wrap .i64 ((IntKind.wrap .i64 (Int.tdiv (((n / 86400 : Nat) : Int)) 365)) + 1))) = ((min (n / 86400 / 365 + 1) 9999 : Nat) : Int) := by
  rw [show Int.tdiv ((n / 86400 : Nat) : Int) 365 = ((n / 86400 / 365 : Nat) : Int) from rfl, wrapI (n := ((n / 86400 / 365 : Nat) : Int)) (by omega) (by omega), wrapI (by omega) (by omega), Bool.cond_decide]
  split <;> omega
theorem c12 (t : Int) (h : i64B t = true) : RetX (Γ u mx) 12 [.i .i64 t] [] (fldA t) [] := by
  cases g : knownB t with
  | false =>
    refine ret_goes (Γ := Γ u mx) hP hZ h12_ok (by kernel_rfl) ⟨0, ?_⟩
    rw [r12, g]
    simp [fldA, fY, fMo, fD, fH, fMi, fS, fE, g]
  | true =>
    obtain ⟨n, rfl, hn⟩ := known_nat g
    have hd : n / 86400 < 3652059 := by omega
    have hy := year_ok _ hd
    have hY := year_le hd hy
    have hm := month_ok (yearOf (n / 86400)) (n / 86400 - befN (yearOf (n / 86400))) (by have := hy.2.1; have := hy.2.2; omega)
    obtain ⟨k, hk⟩ := g12_5 (u := u) (mx := mx) ((n % 86400 / 3600 : Nat) : Int) ((n % 86400 / 60 % 60 : Nat) : Int) ((n % 86400 % 60 : Nat) : Int) hd hy hm (min (n / 86400 / 365 + 1) 9999) (yd_le _ _) (by omega)
    refine ret_goes (Γ := Γ u mx) hP hZ h12_ok (by kernel_rfl) ⟨k, ?_⟩
    have q1 : dayQ ((n : Int) - 62135596800) = ((n / 86400 : Nat) : Int) := by unfold dayQ; omega
    have q2 : dayR ((n : Int) - 62135596800) = ((n % 86400 : Nat) : Int) := by unfold dayR; omega
    rw [r12, g, q1, q2, year_min hn, fld_eq g]
    simp only [Bool.not_true, cond_false, cond_true]
    rw [show Int.tdiv ((n % 86400 : Nat) : Int) 3600 = ((n % 86400 / 3600 : Nat) : Int) from rfl, show Int.tdiv ((n % 86400 : Nat) : Int) 60 = ((n % 86400 / 60 : Nat) : Int) from rfl, wrapI (n := ((n % 86400 / 3600 : Nat) : Int)) (by omega) (by omega), wrapI (n := ((n % 86400 / 60 : Nat) : Int)) (by omega) (by omega),
      show Int.tmod ((n % 86400 / 60 : Nat) : Int) 60 = ((n % 86400 / 60 % 60 : Nat) : Int) from rfl, show Int.tmod ((n % 86400 : Nat) : Int) 60 = ((n % 86400 % 60 : Nat) : Int) from rfl]
    exact hk
theorem c13 (t : Int) (h : i64B t = true) : RetX (Γ u mx) 13 [.i .i64 t] [] (fldA t) [] := by
  cases g : knownB t with
  | false =>
    refine ret_goes (Γ := Γ u mx) hP hZ h13_ok (by kernel_rfl) ⟨0, ?_⟩
    have hf : t < -62135596800 ∨ t > 253402300799 := by
      have := Bool.eq_false_iff.1 g
      simp only [knownB, ne_eq, Bool.and_eq_true, decide_eq_true_eq] at this
      omega
    rw [r13]
    simp only [Bool.cond_decide, fldA, fY, fMo, fD, fH, fMi, fS, fE, g, cond_false]
    by_cases h1 : t < -62135596800
    · rw [if_pos h1]
    · rw [if_neg h1, if_pos (by omega)]
  | true =>
    obtain ⟨n, rfl, hn⟩ := known_nat g
    have hd : n / 86400 < 3652059 := by omega
    have hy := year_ok _ hd
    have hY := year_le hd hy
    have hm := month_ok (yearOf (n / 86400)) (n / 86400 - befN (yearOf (n / 86400))) (by have := hy.2.1; have := hy.2.2; omega)
    obtain ⟨k, hk⟩ := g13_6 (u := u) (mx := mx) ((n % 86400 / 3600 : Nat) : Int) ((n % 86400 % 3600 / 60 : Nat) : Int) ((n % 86400 % 60 : Nat) : Int) hd hy hY hm (yearOf (n / 86400) - 1) 1 (Nat.le_refl _) (by have := hy.1; omega)
    rw [show befN 1 = 0 from rfl, Nat.sub_zero] at hk
    refine ret_goes (Γ := Γ u mx) hP hZ h13_ok (by kernel_rfl) ⟨k, ?_⟩
    rw [r13, fld_eq g, decide_eq_false (show ¬ (n : Int) - 62135596800 < -62135596800 by omega), decide_eq_false (show ¬ (n : Int) - 62135596800 > 253402300799 by omega), show (n : Int) - 62135596800 + 62135596800 = (n : Int) by omega, wrapI (n := (n : Int)) (by omega) (by omega)]
    simp only [cond_false]
    rw [show Int.tdiv (n : Int) 86400 = ((n / 86400 : Nat) : Int) from rfl, show Int.tmod (n : Int) 86400 = ((n % 86400 : Nat) : Int) from rfl, wrapI (n := ((n / 86400 : Nat) : Int)) (by omega) (by omega),
      show Int.tdiv ((n % 86400 : Nat) : Int) 3600 = ((n % 86400 / 3600 : Nat) : Int) from rfl, show Int.tmod ((n % 86400 : Nat) : Int) 3600 = ((n % 86400 % 3600 : Nat) : Int) from rfl, show Int.tdiv ((n % 86400 % 3600 : Nat) : Int) 60 = ((n % 86400 % 3600 / 60 : Nat) : Int) from rfl, wrapI (n := ((n % 86400 / 3600 : Nat) : Int)) (by omega) (by omega), wrapI (n := ((n % 86400 % 3600 / 60 : Nat) : Int)) (by omega) (by omega),
      show Int.tmod ((n % 86400 : Nat) : Int) 60 = ((n % 86400 % 60 : Nat) : Int) from rfl]
    rw [show (dateOf n).mi = n % 86400 % 3600 / 60 by show n % 86400 / 60 % 60 = _; omega]
    exact hk
theorem ite_same {α : Type} {c : Prop} [Decidable c] {a X : α} (h : ¬ c → X = a) : (if c then a else X) = a := by
  by_cases hc : c
  · rw [if_pos hc]
  · rw [if_neg hc]; exact h hc
theorem c11 (y m d h n s : Int) : RetX (Γ u mx) 11 [.d 25 (.agg [.int .i64 y, .int .i64 m, .int .i64 d, .int .i64 h, .int .i64 n, .int .i64 s])] [] (secA y m d h n s) [] := by
  cases g : goodB y m d h n s with
  | false =>
    refine ret_goes (Γ := Γ u mx) hP hZ h11_ok (by kernel_rfl) ⟨0, ?_⟩
    have hf : ¬ _ := fun hg => Bool.eq_false_iff.1 g (good_iff.2 hg)
    rw [r11]
    simp only [Bool.cond_decide, secA, secZ, secE, g, cond_false]
    have e1 : (1 ≤ y ∧ 1 ≤ m ∧ m ≤ 12) → ylB y m = true := fun _ => by simp only [ylB, Bool.and_eq_true, decide_eq_true_eq]; omega
    refine ite_same fun k1 => ite_same fun k2 => ite_same fun k3 => ite_same fun k4 => ite_same fun k5 => ?_
    rw [e1 (by omega), cond_true]
    refine ite_same fun k6 => ite_same fun k7 => ite_same fun k8 => ite_same fun k9 => ite_same fun k10 => ite_same fun k11 => ite_same fun k12 => ?_
    exact absurd ⟨by omega, by omega, by omega, by omega, by omega, by omega, by omega, by omega, by omega, by omega, by omega, by omega⟩ hf
  | true =>
    obtain ⟨q1, q2, q3, q4, q5, q6, q7⟩ := secZ_eq g
    have g' := good_iff.1 g
    have hl := len_b y m
    obtain ⟨y, rfl⟩ := nat_of (y := y) (by omega)
    obtain ⟨m, rfl⟩ := nat_of (y := m) (by omega)
    obtain ⟨d, rfl⟩ := nat_of (y := d) (by omega)
    obtain ⟨k, hk⟩ := g11_5 (u := u) (mx := mx) (y := y) (m := m) (d := d) h n s (by omega) (by omega) (by omega) (by omega) (by omega) (by omega) (y - 1) 1 (Nat.le_refl _) (by omega)
    rw [show befN 1 = 0 from rfl, Nat.add_zero] at hk
    refine ret_goes (Γ := Γ u mx) hP hZ h11_ok (by kernel_rfl) ⟨k, ?_⟩
    have e1 : ylB (y : Int) (m : Int) = true := by simp only [ylB, Bool.and_eq_true, decide_eq_true_eq]; omega
    rw [r11, e1, decide_eq_false (show ¬ (y : Int) < 1 by omega), decide_eq_false (show ¬ (y : Int) > 9999 by omega), decide_eq_false (show ¬ (m : Int) < 1 by omega), decide_eq_false (show ¬ (m : Int) > 12 by omega), decide_eq_false (show ¬ (d : Int) < 1 by omega), decide_eq_false (show ¬ (d : Int) > lenZ y m by omega),
      decide_eq_false (show ¬ h < 0 by omega), decide_eq_false (show ¬ h > 23 by omega), decide_eq_false (show ¬ n < 0 by omega), decide_eq_false (show ¬ n > 59 by omega), decide_eq_false (show ¬ s < 0 by omega), decide_eq_false (show ¬ s > 59 by omega), wrapI (n := (d : Int) - 1) (by omega) (by omega)]
    simp only [cond_false, cond_true]
    unfold dD at hk
    rw [show (d : Int) - 1 = ((d - 1 : Nat) : Int) by omega]
    refine hk.trans ?_
    unfold secA
    refine tr_eq ?_ (by simp [secE, g])
    rw [q1, show befZ (y : Int) = ((befN y : Nat) : Int) from rfl, show ahdZ (y : Int) (m : Int) = ((ahdN y m : Nat) : Int) from rfl]
    omega
end Go.Proofs.YtlmdkclchjcapaaDoor.V
