/- Products and sums that stay within 64 bits, and days behind a moment. The laying of bits.Mul64 is written by program. -/
import Derived.Test.YtlmdkclchjcapaaDoorWhE
import Derived.Shelf.Bits.Mul64
namespace Go.Proofs
set_option maxRecDepth 100000
def Lx.lays264_ren : Go.Shelf.Ren := ⟨fun | 264 => 53 | n => n, fun | 46 => 76 | 53 => 44 | n => n, fun | n => n⟩
theorem Lx.lays264 : Go.Proofs.Lays.n264 Tryd.prog Lx.lays264_ren :=
  { mixed := by kernel_rfl, f264 := Tryd.func53.trans (congrArg some (by kernel_rfl)), t46 := Tryd.underlying76, a46 := Tryd.isAgg76, z46 := Tryd.sizeOf76, v46 := Tryd.zeroValue76, t53 := Tryd.underlying44, a53 := Tryd.isAgg44, z53 := Tryd.sizeOf44, v53 := Tryd.zeroValue44 }

end Go.Proofs
namespace Go.Proofs.YtlmdkclchjcapaaDoor.V
open Go Go.RowKit
set_option maxRecDepth 100000
set_option linter.unusedVariables false
set_option linter.unusedSimpArgs false
variable {u : Bool} {mx : Int}
theorem c53 (a b : Int) (h : u64B a b = true) : RetX (Γ u mx) 53 [.i .u64 a, .i .u64 b] [] (mulA a b) [] := by
  refine ret_shelf (by kernel_rfl) fun w S vals hG ha => ?_
  simp only [RepAs, RepA] at ha
  obtain ⟨v, _, rfl, rfl, v', _, rfl, rfl, rfl⟩ := ha
  simp only [u64B, decide_eq_true_eq] at h
  obtain ⟨a, rfl⟩ := nat_of h.1
  obtain ⟨b, rfl⟩ := nat_of h.2.2.1
  refine (Any.bits_Mul64 Lx.lays264 a b (by omega) (by omega) w).mono fun e w' ⟨he, hw⟩ => ⟨_, he, by rw [hw]; exact Below.refl _ _, ?_⟩
  simp only [mulA, hiZ, loZ, RepA, RepAs]
  exact ⟨_, rfl, _, _, rfl, by simp, _, _, rfl, by simp, rfl⟩
theorem mag_b {a : Int} (h : i64B a = true) : 0 ≤ magZ a ∧ magZ a ≤ 9223372036854775808 := by
  simp only [i64B, Bool.and_eq_true, decide_eq_true_eq] at h
  unfold magZ; omega
theorem spU2_mul : SpecOK (Γ u mx) ⟨53, dat (spU2 u64B mulA)⟩ := spU2_ok c53
theorem h39_ok : CallsOK (Γ u mx) H39 := specs_ok (.cons spU2_mul (.cons (spI1_ok c54) .nil))
theorem h41_ok : CallsOK (Γ u mx) H41 := specs_ok (.cons (spI1_ok c55) .nil)
theorem mul_sign (a b : Int) : (decide (a < 0) == decide (b < 0)) = true ∧ a * b = magZ a * magZ b ∨ (decide (a < 0) == decide (b < 0)) = false ∧ a * b = - (magZ a * magZ b) := by
  unfold magZ
  by_cases ha : a < 0 <;> by_cases hb : b < 0
  · left; refine ⟨by simp [ha, hb], ?_⟩
    rw [show ((a.natAbs : Nat) : Int) = -a by omega, show ((b.natAbs : Nat) : Int) = -b by omega, Int.neg_mul_neg]
  · right; refine ⟨by simp [ha, hb], ?_⟩
    rw [show ((a.natAbs : Nat) : Int) = -a by omega, show ((b.natAbs : Nat) : Int) = b by omega, Int.neg_mul, Int.neg_neg]
  · right; refine ⟨by simp [ha, hb], ?_⟩
    rw [show ((a.natAbs : Nat) : Int) = a by omega, show ((b.natAbs : Nat) : Int) = -b by omega, Int.mul_neg, Int.neg_neg]
  · left; refine ⟨by simp [ha, hb], ?_⟩
    rw [show ((a.natAbs : Nat) : Int) = a by omega, show ((b.natAbs : Nat) : Int) = b by omega]
theorem prod_b {a b : Int} (ha : i64B a = true) (hb : i64B b = true) : 0 ≤ magZ a * magZ b ∧ magZ a * magZ b ≤ 85070591730234615865843651857942052864 := by
  obtain ⟨a1, a2⟩ := mag_b ha
  obtain ⟨b1, b2⟩ := mag_b hb
  refine ⟨Int.mul_nonneg a1 b1, ?_⟩
  calc magZ a * magZ b ≤ 9223372036854775808 * 9223372036854775808 := Int.mul_le_mul a2 b2 b1 (by omega)
    _ = 85070591730234615865843651857942052864 := by rfl
theorem c39 (a b : Int) (h : i64B2 a b = true) : RetX (Γ u mx) 39 [.i .i64 a, .i .i64 b] [] (.i .i64 (mulZ a b)) [] := by
  refine ret_goes (Γ := Γ u mx) hP hZ h39_ok (by kernel_rfl) ⟨0, ?_⟩
  simp only [i64B2, Bool.and_eq_true] at h
  have e1 : u64B (magZ a) (magZ b) = true := decide_eq_true (by have := mag_b h.1; have := mag_b h.2; omega)
  rw [r39, h.1, h.2, e1]
  unfold mulZ ends hiZ loZ
  have hp := prod_b h.1 h.2
  have hs := mul_sign a b
  generalize magZ a * magZ b = p at *
  generalize a * b = q at *
  rcases hs with ⟨hs, rfl⟩ | ⟨hs, rfl⟩ <;> rw [hs]
  · simp only [Bool.not_true, cond_true, cond_false, bne, beqD, Bool.cond_not, Bool.cond_decide, IntKind.wrap_i64, IntKind.wrap_u64]
    repeat' split
    all_goals (refine ir_eq ?_; omega)
  · simp only [Bool.not_false, cond_true, cond_false, bne, beqD, Bool.cond_not, Bool.cond_decide, IntKind.wrap_i64, IntKind.wrap_u64]
    repeat' split
    all_goals (refine ir_eq ?_; omega)
theorem div_gt {l a b : Nat} (ha : 0 < a) : b > l / a ↔ a * b > l := by
  rw [gt_iff_lt, Nat.div_lt_iff_lt_mul ha, Nat.mul_comm b a]
theorem c41 (a b : Int) (h : i64B2 a b = true) : RetX (Γ u mx) 41 [.i .i64 a, .i .i64 b] [] (.i .i64 (mulZ a b)) [] := by
  refine ret_goes (Γ := Γ u mx) hP hZ h41_ok (by kernel_rfl) ⟨0, ?_⟩
  simp only [i64B2, Bool.and_eq_true] at h
  rw [r41, h.1, h.2]
  have hp := prod_b h.1 h.2
  have ha := mag_b h.1
  have hb := mag_b h.2
  have hs := mul_sign a b
  obtain ⟨x, hx⟩ := nat_of ha.1
  obtain ⟨y, hy⟩ := nat_of hb.1
  obtain ⟨p, hpd⟩ : ∃ p : Nat, p = x * y := ⟨_, rfl⟩
  have hxy : (x : Int) * (y : Int) = (p : Int) := by rw [hpd]; simp
  rw [hx, hy, hxy] at hs hp
  have e7 : IntKind.u64.wrap (Int.tdiv 9223372036854775807 (x : Int)) = ((9223372036854775807 / x : Nat) : Int) := by
    rw [show Int.tdiv 9223372036854775807 (x : Int) = ((9223372036854775807 / x : Nat) : Int) from rfl]
    have := Nat.div_le_self 9223372036854775807 x
    generalize 9223372036854775807 / x = l at *
    exact wrapU (by omega) (by omega)
  have e8 : IntKind.u64.wrap (Int.tdiv 9223372036854775808 (x : Int)) = ((9223372036854775808 / x : Nat) : Int) := by
    rw [show Int.tdiv 9223372036854775808 (x : Int) = ((9223372036854775808 / x : Nat) : Int) from rfl]
    have := Nat.div_le_self 9223372036854775808 x
    generalize 9223372036854775808 / x = l at *
    exact wrapU (by omega) (by omega)
  unfold mulZ ends
  rw [hx, hy, e7, e8, hxy]
  clear e7 e8 hxy ha hb hx hy h
  by_cases h0 : x = 0
  · subst h0
    obtain rfl : p = 0 := by simpa using hpd
    generalize a * b = q at *
    generalize (decide (a < 0) == decide (b < 0)) = s at *
    rcases hs with ⟨hs, hq⟩ | ⟨hs, hq⟩
    · subst hs; subst hq
      show _ = _
      kernel_rfl
    · subst hs; subst hq
      show _ = _
      kernel_rfl
  · have d7 := div_gt (l := 9223372036854775807) (b := y) (show 0 < x by omega)
    have d8 := div_gt (l := 9223372036854775808) (b := y) (show 0 < x by omega)
    rw [← hpd] at d7 d8
    have hx0 : ((x : Int) == 0) = false := by simp <;> omega
    have hx1 : ((x : Int) != 0) = true := by simp <;> omega
    rw [hx0, hx1]
    generalize 9223372036854775807 / x = l7 at *
    generalize 9223372036854775808 / x = l8 at *
    have k7 : ((y : Int) > (l7 : Int)) ↔ (p : Int) > 9223372036854775807 := by omega
    have k8 : ((y : Int) > (l8 : Int)) ↔ (p : Int) > 9223372036854775808 := by omega
    clear hpd hx0 hx1 d7 d8
    generalize a * b = q at *
    rcases hs with ⟨hs, rfl⟩ | ⟨hs, rfl⟩ <;> rw [hs]
    · simp only [Bool.not_true, Bool.not_false, cond_true, cond_false, bne, beqD, Bool.cond_not, Bool.cond_decide, k7, k8, IntKind.wrap_i64, IntKind.wrap_u64]
      repeat' split
      all_goals (refine ir_eq ?_; omega)
    · simp only [Bool.not_true, Bool.not_false, cond_true, cond_false, bne, beqD, Bool.cond_not, Bool.cond_decide, k7, k8, IntKind.wrap_i64, IntKind.wrap_u64]
      repeat' split
      all_goals (refine ir_eq ?_; omega)
theorem ends_b (n : Int) : i64B (ends n) = true := by
  simp only [i64B, Bool.and_eq_true, decide_eq_true_eq]
  unfold ends
  repeat' split
  all_goals omega
theorem clamp_b (n : Int) : knownB (clampZ n) = true := by
  simp only [knownB, Bool.and_eq_true, decide_eq_true_eq]
  unfold clampZ
  repeat' split
  all_goals omega
theorem known_i {n : Int} (h : knownB n = true) : i64B n = true := by
  simp only [knownB, i64B, Bool.and_eq_true, decide_eq_true_eq] at *
  omega
theorem h21_ok : CallsOK (Γ u mx) H21 := specs_ok (.cons (spI1_ok c23) (.cons (spI2_ok c38) (.cons (spI2_ok c39) .nil)))
theorem h22_ok : CallsOK (Γ u mx) H22 := specs_ok (.cons (spI1_ok c24) (.cons (spI2_ok c40) (.cons (spI2_ok c41) .nil)))
theorem i64B2_1 {t n : Int} (h : i64B2 t n = true) : i64B2 n 86400 = true := by
  simp only [i64B2, Bool.and_eq_true] at *
  exact ⟨h.2, rfl⟩
theorem i64B2_2 (t n : Int) : i64B2 (clampZ t) (mulZ n 86400) = true := by
  simp only [i64B2, Bool.and_eq_true]
  exact ⟨known_i (clamp_b t), ends_b _⟩
theorem c21 (t n : Int) (h : i64B2 t n = true) : RetX (Γ u mx) 21 [.i .i64 t, .i .i64 n] [] (.i .i64 (daysZ t n)) [] := by
  refine ret_goes (Γ := Γ u mx) hP hZ h21_ok (by kernel_rfl) ⟨0, ?_⟩
  rw [r21, i64B2_1 h, i64B2_2]; rfl
theorem c22 (t n : Int) (h : i64B2 t n = true) : RetX (Γ u mx) 22 [.i .i64 t, .i .i64 n] [] (.i .i64 (daysZ t n)) [] := by
  refine ret_goes (Γ := Γ u mx) hP hZ h22_ok (by kernel_rfl) ⟨0, ?_⟩
  rw [r22, i64B2_1 h, i64B2_2]; rfl
end Go.Proofs.YtlmdkclchjcapaaDoor.V
