/- Dates: plain laws over numbers, no program in sight. -/
import Derived.Test.YtlmdkclchjcapaaDoorFrA
namespace Go.Proofs.YtlmdkclchjcapaaDoor.V
open Go
set_option maxRecDepth 100000
set_option linter.unusedVariables false
set_option linter.unusedSimpArgs false

def leapN (y : Nat) : Bool := decide (y % 4 = 0 ∧ (y % 100 ≠ 0 ∨ y % 400 = 0))
def yrN (y : Nat) : Nat := if leapN y = true then 366 else 365
def befN (y : Nat) : Nat := 365 * (y - 1) + (y - 1) / 4 - (y - 1) / 100 + (y - 1) / 400
def ahdT : List Nat := [0, 0, 31, 59, 90, 120, 151, 181, 212, 243, 273, 304, 334, 365]
def ahdN (y m : Nat) : Nat := ahdT.getD m 0 + (if m > 2 ∧ leapN y = true then 1 else 0)
def lenN (y m : Nat) : Nat := if m = 2 then (if leapN y = true then 29 else 28) else if m = 4 ∨ m = 6 ∨ m = 9 ∨ m = 11 then 30 else 31
theorem leap_iff (y : Nat) : leapN y = true ↔ (y % 4 = 0 ∧ (y % 100 ≠ 0 ∨ y % 400 = 0)) := by unfold leapN; exact decide_eq_true_iff
theorem bef_succ (y : Nat) (h : 1 ≤ y) : befN (y + 1) = befN y + yrN y := by
  obtain ⟨z, rfl⟩ : ∃ z, y = z + 1 := ⟨y - 1, by omega⟩
  have h4 : (z + 1) / 4 = z / 4 + (if 4 ∣ z + 1 then 1 else 0) := Nat.succ_div
  have h100 : (z + 1) / 100 = z / 100 + (if 100 ∣ z + 1 then 1 else 0) := Nat.succ_div
  have h400 : (z + 1) / 400 = z / 400 + (if 400 ∣ z + 1 then 1 else 0) := Nat.succ_div
  have hle : z / 100 ≤ z / 4 := by omega
  have hle2 : (z + 1) / 100 ≤ (z + 1) / 4 := by omega
  have d4 : (4 ∣ z + 1) ↔ (z + 1) % 4 = 0 := Nat.dvd_iff_mod_eq_zero
  have d100 : (100 ∣ z + 1) ↔ (z + 1) % 100 = 0 := Nat.dvd_iff_mod_eq_zero
  have d400 : (400 ∣ z + 1) ↔ (z + 1) % 400 = 0 := Nat.dvd_iff_mod_eq_zero
  simp only [d4, d100, d400] at h4 h100 h400
  have i1 : (z + 1) % 100 = 0 → (z + 1) % 4 = 0 := by omega
  have i2 : (z + 1) % 400 = 0 → (z + 1) % 100 = 0 := by omega
  have hl := leap_iff (z + 1)
  unfold befN yrN
  rw [Nat.add_sub_cancel, Nat.add_sub_cancel]
  generalize (z + 1) / 4 = a4 at *
  generalize (z + 1) / 100 = a100 at *
  generalize (z + 1) / 400 = a400 at *
  generalize z / 4 = b4 at *
  generalize z / 100 = b100 at *
  generalize z / 400 = b400 at *
  generalize (z + 1) % 4 = m4 at *
  generalize (z + 1) % 100 = m100 at *
  generalize (z + 1) % 400 = m400 at *
  by_cases c4 : m4 = 0
  · by_cases c100 : m100 = 0
    · by_cases c400 : m400 = 0
      · rw [if_pos c4] at h4; rw [if_pos c100] at h100; rw [if_pos c400] at h400
        rw [if_pos (hl.2 ⟨c4, .inr c400⟩)]; omega
      · rw [if_pos c4] at h4; rw [if_pos c100] at h100; rw [if_neg c400] at h400
        rw [if_neg (fun h => by have := hl.1 h; omega)]; omega
    · rw [if_pos c4] at h4; rw [if_neg c100] at h100; rw [if_neg (fun h => c100 (i2 h))] at h400
      rw [if_pos (hl.2 ⟨c4, .inl c100⟩)]; omega
  · rw [if_neg c4] at h4; rw [if_neg (fun h => c4 (i1 h))] at h100; rw [if_neg (fun h => c4 (i1 (i2 h)))] at h400
    rw [if_neg (fun h => c4 (hl.1 h).1)]; omega
theorem months (m : Nat) (h1 : 1 ≤ m) (h2 : m ≤ 12) : m = 1 ∨ m = 2 ∨ m = 3 ∨ m = 4 ∨ m = 5 ∨ m = 6 ∨ m = 7 ∨ m = 8 ∨ m = 9 ∨ m = 10 ∨ m = 11 ∨ m = 12 := by omega
theorem ahd_succ (y m : Nat) (h1 : 1 ≤ m) (h2 : m ≤ 12) : ahdN y (m + 1) = ahdN y m + lenN y m := by
  unfold ahdN lenN
  rcases months m h1 h2 with rfl | rfl | rfl | rfl | rfl | rfl | rfl | rfl | rfl | rfl | rfl | rfl <;> cases leapN y <;> rfl
theorem ahd_one (y : Nat) : ahdN y 1 = 0 := by unfold ahdN; cases leapN y <;> rfl
theorem ahd_13 (y : Nat) : ahdN y 13 = yrN y := by unfold ahdN yrN; cases leapN y <;> rfl
theorem len_pos (y m : Nat) : 28 ≤ lenN y m ∧ lenN y m ≤ 31 := by
  by_cases h2 : m = 2
  · unfold lenN; rw [if_pos h2]; split <;> omega
  · unfold lenN; rw [if_neg h2]; split <;> omega
theorem yr_pos (y : Nat) : 365 ≤ yrN y ∧ yrN y ≤ 366 := by unfold yrN; split <;> omega
theorem bef_lt {a b : Nat} (h1 : 1 ≤ a) (h : a < b) : befN a + yrN a ≤ befN b := by
  induction b with
  | zero => omega
  | succ b ih =>
    rw [bef_succ b (by omega)]
    by_cases hb : a = b
    · subst hb; exact Nat.le_refl _
    · have := ih (by omega); have := yr_pos b; omega
theorem ahd_lt (y : Nat) {a b : Nat} (h1 : 1 ≤ a) (h : a < b) (h2 : b ≤ 13) : ahdN y a + lenN y a ≤ ahdN y b := by
  induction b with
  | zero => omega
  | succ b ih =>
    rw [ahd_succ y b (by omega) (by omega)]
    by_cases hb : a = b
    · subst hb; exact Nat.le_refl _
    · have := ih (by omega) (by omega); have := len_pos y b; omega
def IsYear (day Y : Nat) : Prop := 1 ≤ Y ∧ befN Y ≤ day ∧ day < befN Y + yrN Y
def IsMonth (y r M : Nat) : Prop := 1 ≤ M ∧ M ≤ 12 ∧ ahdN y M ≤ r ∧ r < ahdN y M + lenN y M
theorem IsYear.one {day Y Z : Nat} (h : IsYear day Y) (h' : IsYear day Z) : Y = Z := by
  rcases Nat.lt_trichotomy Y Z with hl | hl | hl
  · have := bef_lt h.1 hl; have := h.2.2; have := h'.2.1; omega
  · exact hl
  · have := bef_lt h'.1 hl; have := h'.2.2; have := h.2.1; omega
theorem IsMonth.one {y r M K : Nat} (h : IsMonth y r M) (h' : IsMonth y r K) : M = K := by
  rcases Nat.lt_trichotomy M K with hl | hl | hl
  · have := ahd_lt y h.1 hl (by have := h'.2.1; omega); have := h.2.2.2; have := h'.2.2.1; omega
  · exact hl
  · have := ahd_lt y h'.1 hl (by have := h.2.1; omega); have := h'.2.2.2; have := h.2.2.1; omega
/-- the last year that begins there or ahead -/
def yd (day : Nat) : Nat → Nat
  | 0 => 0
  | y + 1 => if befN (y + 1) > day then yd day y else y + 1
def md (y r : Nat) : Nat → Nat
  | 0 => 0
  | m + 1 => if ahdN y (m + 1) > r then md y r m else m + 1
theorem yd_ok (day : Nat) : ∀ k, 1 ≤ k → day < befN k + yrN k → IsYear day (yd day k)
  | 0, h, _ => absurd h (by omega)
  | 1, _, h => by
    have e : befN 1 = 0 := rfl
    rw [yd, if_neg (show ¬ befN 1 > day by omega)]
    exact ⟨Nat.le_refl _, show befN 1 ≤ day by omega, h⟩
  | k + 2, _, h => by
    rw [yd]
    by_cases hb : befN (k + 1 + 1) > day
    · rw [if_pos hb]
      refine yd_ok day (k + 1) (by omega) ?_
      rw [← bef_succ (k + 1) (by omega)]; exact hb
    · rw [if_neg hb]; exact ⟨by omega, show befN (k + 1 + 1) ≤ day by omega, h⟩
theorem md_ok (y r : Nat) : ∀ k, 1 ≤ k → k ≤ 12 → r < ahdN y k + lenN y k → IsMonth y r (md y r k)
  | 0, h, _, _ => absurd h (by omega)
  | 1, _, _, h => by
    have e := ahd_one y
    rw [md, if_neg (show ¬ ahdN y 1 > r by omega)]
    exact ⟨Nat.le_refl _, by omega, show ahdN y 1 ≤ r by omega, h⟩
  | k + 2, _, h2, h => by
    rw [md]
    by_cases hb : ahdN y (k + 1 + 1) > r
    · rw [if_pos hb]
      refine md_ok y r (k + 1) (by omega) (by omega) ?_
      rw [← ahd_succ y (k + 1) (by omega) (by omega)]; exact hb
    · rw [if_neg hb]; exact ⟨by omega, h2, show ahdN y (k + 1 + 1) ≤ r by omega, h⟩
def yearOf (day : Nat) : Nat := yd day (min (day / 365 + 1) 9999)
def monthOf (y r : Nat) : Nat := md y r 12
theorem bef_ge (y : Nat) (h : 1 ≤ y) : 365 * (y - 1) ≤ befN y := by unfold befN; omega
/-- the days of the years that there are -/
theorem year_ok (day : Nat) (h : day < 3652059) : IsYear day (yearOf day) := by
  have e : befN 10000 = 3652059 := by rfl
  refine yd_ok day _ (by omega) ?_
  rw [← bef_succ _ (by omega)]
  by_cases hm : day / 365 + 1 ≤ 9999
  · rw [Nat.min_eq_left hm]
    have := bef_ge (day / 365 + 1 + 1) (by omega)
    omega
  · rw [Nat.min_eq_right (by omega)]
    show day < befN 10000
    omega
theorem year_le {day Y : Nat} (h : day < 3652059) (hy : IsYear day Y) : Y ≤ 9999 := by
  have e : befN 10000 = 3652059 := by rfl
  by_cases hb : Y ≤ 9999
  · exact hb
  · have : befN 10000 ≤ befN Y := by
      by_cases h10 : Y = 10000
      · subst h10; exact Nat.le_refl _
      · have := bef_lt (a := 10000) (b := Y) (by omega) (by omega); have := yr_pos 10000; omega
    have := hy.2.1
    omega
theorem month_ok (y r : Nat) (h : r < yrN y) : IsMonth y r (monthOf y r) := by
  refine md_ok y r 12 (by omega) (by omega) ?_
  rw [← ahd_succ y 12 (by omega) (by omega), ahd_13]; exact h
/-- a date: year, month, day, hour, minute, second -/
structure DateN where
  y : Nat
  mo : Nat
  d : Nat
  h : Nat
  mi : Nat
  s : Nat
  deriving DecidableEq
def DateN.good (x : DateN) : Prop := 1 ≤ x.y ∧ x.y ≤ 9999 ∧ 1 ≤ x.mo ∧ x.mo ≤ 12 ∧ 1 ≤ x.d ∧ x.d ≤ lenN x.y x.mo ∧ x.h < 24 ∧ x.mi < 60 ∧ x.s < 60
/-- seconds from year 1 on -/
def DateN.secs (x : DateN) : Nat := (befN x.y + ahdN x.y x.mo + (x.d - 1)) * 86400 + (x.h * 3600 + x.mi * 60 + x.s)
def dateOf (n : Nat) : DateN :=
  { y := yearOf (n / 86400), mo := monthOf (yearOf (n / 86400)) (n / 86400 - befN (yearOf (n / 86400))), d := n / 86400 - befN (yearOf (n / 86400)) - ahdN (yearOf (n / 86400)) (monthOf (yearOf (n / 86400)) (n / 86400 - befN (yearOf (n / 86400)))) + 1,
    h := n % 86400 / 3600, mi := n % 86400 / 60 % 60, s := n % 86400 % 60 }
theorem date_good (n : Nat) (h : n < 315537897600) : (dateOf n).good ∧ (dateOf n).secs = n := by
  have hd : n / 86400 < 3652059 := by omega
  have hy := year_ok _ hd
  have hy9 := year_le hd hy
  unfold dateOf DateN.good DateN.secs
  simp only
  generalize yearOf (n / 86400) = Y at hy hy9 ⊢
  have hr : n / 86400 - befN Y < yrN Y := by have := hy.2.1; have := hy.2.2; omega
  have hm := month_ok Y _ hr
  generalize monthOf Y (n / 86400 - befN Y) = M at hm ⊢
  obtain ⟨m1, m2, m3, m4⟩ := hm
  obtain ⟨y1, y2, y3⟩ := hy
  refine ⟨⟨y1, hy9, m1, m2, by omega, by omega, by omega, by omega, by omega⟩, by omega⟩
theorem secs_lt {x : DateN} (h : x.good) : x.secs < 315537897600 ∧ IsYear (x.secs / 86400) x.y ∧ IsMonth x.y (x.secs / 86400 - befN x.y) x.mo := by
  obtain ⟨h1, h2, h3, h4, h5, h6, h7, h8, h9⟩ := h
  have e : befN 10000 = 3652059 := by rfl
  have ha : ahdN x.y x.mo + lenN x.y x.mo ≤ yrN x.y := by
    rw [← ahd_13]
    exact ahd_lt x.y h3 (show x.mo < 13 by omega) (Nat.le_refl _)
  have hb : befN x.y + yrN x.y ≤ 3652059 := by
    rw [← e, ← bef_succ x.y h1]
    by_cases hy : x.y = 9999
    · rw [hy]; exact Nat.le_refl _
    · have := bef_lt (a := x.y + 1) (b := 10000) (by omega) (by omega); omega
  have hq : x.secs / 86400 = befN x.y + ahdN x.y x.mo + (x.d - 1) := by unfold DateN.secs; omega
  refine ⟨by unfold DateN.secs; omega, ⟨h1, by omega, by omega⟩, ⟨h3, h4, by omega, by omega⟩⟩
theorem date_secs {x : DateN} (h : x.good) : dateOf x.secs = x := by
  obtain ⟨hl, hy, hm⟩ := secs_lt h
  have ey : yearOf (x.secs / 86400) = x.y := (year_ok _ (by omega)).one hy
  have em : monthOf x.y (x.secs / 86400 - befN x.y) = x.mo := (month_ok _ _ (by have := hy.2.2; have := hy.2.1; omega)).one hm
  obtain ⟨h1, h2, h3, h4, h5, h6, h7, h8, h9⟩ := h
  have hq : x.secs / 86400 = befN x.y + ahdN x.y x.mo + (x.d - 1) := by unfold DateN.secs; omega
  have hr : x.secs % 86400 = x.h * 3600 + x.mi * 60 + x.s := by unfold DateN.secs; omega
  unfold dateOf
  rw [ey, em, hq, hr]
  cases x
  simp only [DateN.mk.injEq, true_and] at *
  refine ⟨by omega, by omega, by omega, by omega⟩
/-- a second later -/
def nextD (x : DateN) : DateN :=
  if x.s < 59 then { x with s := x.s + 1 } else if x.mi < 59 then { x with mi := x.mi + 1, s := 0 } else if x.h < 23 then { x with h := x.h + 1, mi := 0, s := 0 }
  else if x.d < lenN x.y x.mo then { x with d := x.d + 1, h := 0, mi := 0, s := 0 } else if x.mo < 12 then { x with mo := x.mo + 1, d := 1, h := 0, mi := 0, s := 0 } else { y := x.y + 1, mo := 1, d := 1, h := 0, mi := 0, s := 0 }
theorem next_secs {x : DateN} (h : x.good) (hn : x.secs + 1 < 315537897600) : (nextD x).good ∧ (nextD x).secs = x.secs + 1 := by
  obtain ⟨h1, h2, h3, h4, h5, h6, h7, h8, h9⟩ := h
  have hl := len_pos x.y x.mo
  have hl2 := len_pos x.y (x.mo + 1)
  have ha := ahd_succ x.y x.mo h3 h4
  unfold nextD
  split
  · unfold DateN.good DateN.secs at *; simp only at *; omega
  · split
    · unfold DateN.good DateN.secs at *; simp only at *; omega
    · split
      · unfold DateN.good DateN.secs at *; simp only at *; omega
      · split
        · unfold DateN.good DateN.secs at *; simp only at *; omega
        · split
          · unfold DateN.good DateN.secs at *; simp only at *; omega
          · have e12 : x.mo = 12 := by omega
            have e13 := ahd_13 x.y
            have eb := bef_succ x.y h1
            have e1 := ahd_one (x.y + 1)
            have hl3 := len_pos (x.y + 1) 1
            have ha : ahdN x.y 13 = ahdN x.y 12 + lenN x.y 12 := ahd_succ x.y 12 (by omega) (by omega)
            have hs : x.secs = (befN x.y + ahdN x.y x.mo + (x.d - 1)) * 86400 + (x.h * 3600 + x.mi * 60 + x.s) := rfl
            rw [e12] at hs
            have hd : lenN x.y x.mo = lenN x.y 12 := by rw [e12]
            have hd2 : x.d = lenN x.y 12 := by omega
            have hsum : (befN (x.y + 1)) * 86400 = x.secs + 1 := by omega
            have e10 : befN 10000 = 3652059 := by rfl
            have hy : x.y + 1 ≤ 9999 := by
              by_cases hc : x.y + 1 ≤ 9999
              · exact hc
              · have : x.y + 1 = 10000 := by omega
                rw [this, e10] at hsum
                omega
            refine ⟨?_, ?_⟩
            · unfold DateN.good
              simp only
              omega
            · show (befN (x.y + 1) + ahdN (x.y + 1) 1 + (1 - 1)) * 86400 + (0 * 3600 + 0 * 60 + 0) = x.secs + 1
              rw [e1]
              simpa using hsum
theorem date_next {n : Nat} (h : n + 1 < 315537897600) : dateOf (n + 1) = nextD (dateOf n) := by
  obtain ⟨hg, hs⟩ := date_good n (by omega)
  obtain ⟨hg', hs'⟩ := next_secs hg (by omega)
  rw [hs] at hs'
  rw [← hs', date_secs hg']
end Go.Proofs.YtlmdkclchjcapaaDoor.V
