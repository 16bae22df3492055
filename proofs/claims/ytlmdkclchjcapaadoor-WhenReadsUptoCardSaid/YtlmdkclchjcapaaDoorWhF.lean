/- Dates: contracts of pad and two, and of the texts of moments. -/
import Derived.Test.YtlmdkclchjcapaaDoorWhE
namespace Go.Proofs.YtlmdkclchjcapaaDoor.V
open Go
set_option maxRecDepth 100000
set_option linter.unusedVariables false
set_option linter.unusedSimpArgs false
variable {u : Bool} {mx : Int}
theorem dec3 {n : Nat} (h : 100 ≤ n) (h' : n < 1000) : Lib.decDigits n = [UInt8.ofNat (48 + n / 100), UInt8.ofNat (48 + n / 10 % 10), UInt8.ofNat (48 + n % 10)] := by
  rw [Lib.decDigits, dif_neg (by omega), Lib.decDigits_two (i := n / 10) (by omega) (by omega), show n / 10 / 10 = n / 100 by omega]; rfl
theorem dec4 {n : Nat} (h : 1000 ≤ n) (h' : n < 10000) : Lib.decDigits n = [UInt8.ofNat (48 + n / 1000), UInt8.ofNat (48 + n / 100 % 10), UInt8.ofNat (48 + n / 10 % 10), UInt8.ofNat (48 + n % 10)] := by
  rw [Lib.decDigits, dif_neg (by omega), dec3 (n := n / 10) (by omega) (by omega), show n / 10 / 100 = n / 1000 by omega, show n / 10 / 10 = n / 100 by omega]; rfl
theorem pad_nat {n : Nat} {d : Int} (h : padB (n : Int) d = true) : ∃ c : Nat, d - ((Lib.itoa (n : Int)).length : Int) = (c : Int) ∧ c ≤ 4 ∧ (Lib.itoa (n : Int)).length ≤ 4 ∧ Lib.repeatL [48] c ++ Lib.itoa (n : Int) = padZ (n : Int) d := by
  rw [Lib.itoa_nonneg]
  have e10 : ((n : Int) / 100).toNat = n / 100 := by omega
  have e11 : ((n : Int) % 100).toNat = n % 100 := by omega
  have hd : (d = 2 ∧ n < 100) ∨ (d = 4 ∧ n < 10000) := by
    simp only [padB, Bool.or_eq_true, Bool.and_eq_true, beq_iff_eq, decide_eq_true_eq] at h
    omega
  have z2 : padZ (n : Int) 2 = [UInt8.ofNat (48 + n / 10), UInt8.ofNat (48 + n % 10)] := rfl
  have z4 : padZ (n : Int) 4 = [UInt8.ofNat (48 + n / 100 / 10), UInt8.ofNat (48 + n / 100 % 10), UInt8.ofNat (48 + n % 100 / 10), UInt8.ofNat (48 + n % 100 % 10)] := by
    show pad2 ((n : Int) / 100) ++ pad2 ((n : Int) % 100) = _
    unfold pad2
    rw [e10, e11]; rfl
  rcases hd with ⟨rfl, hn⟩ | ⟨rfl, hn⟩
  · rw [z2]
    by_cases h1 : n < 10
    · rw [Lib.decDigits_one h1, show n / 10 = 0 by omega, show n % 10 = n by omega]
      exact ⟨1, rfl, by omega, by simp, rfl⟩
    · rw [Lib.decDigits_two h1 (by omega)]
      exact ⟨0, rfl, by omega, by simp, rfl⟩
  · rw [z4, show n % 100 / 10 = n / 10 % 10 by omega, show n % 100 % 10 = n % 10 by omega]
    by_cases h1 : n < 10
    · rw [Lib.decDigits_one h1, show n / 100 / 10 = 0 by omega, show n / 100 % 10 = 0 by omega, show n / 10 % 10 = 0 by omega, show n % 10 = n by omega]
      exact ⟨3, rfl, by omega, by simp, rfl⟩
    · by_cases h2 : n < 100
      · rw [Lib.decDigits_two h1 (by omega), show n / 100 / 10 = 0 by omega, show n / 100 % 10 = 0 by omega, show n / 10 % 10 = n / 10 by omega]
        exact ⟨2, rfl, by omega, by simp, rfl⟩
      · by_cases h3 : n < 1000
        · rw [dec3 (by omega) h3, show n / 100 / 10 = 0 by omega, show n / 100 % 10 = n / 100 by omega]
          exact ⟨1, rfl, by omega, by simp, rfl⟩
        · rw [dec4 (by omega) hn, show n / 100 / 10 = n / 1000 by omega]
          exact ⟨0, rfl, by omega, by simp, rfl⟩
theorem spSI_rep : SpecOK (Γ u mx) ⟨50, dat (spSI repC fun s c => .s (Lib.repeatL s (Int.toNat c)))⟩ := spSI_ok rep_ret
theorem h35_ok : CallsOK (Γ u mx) H35 := specs_ok (.cons (spI1_ok itoa_ret) (.cons spSI_rep .nil))
theorem c35 (n d : Int) (h : padB n d = true) : RetX (Γ u mx) 35 [.i .i64 n, .i .i64 d] [] (.s (padZ n d)) [] := by
  refine ret_goes (Γ := Γ u mx) hP hZ h35_ok (by kernel_rfl) ⟨0, ?_⟩
  have hb : 0 ≤ n ∧ n < 10000 := by
    simp only [padB, Bool.or_eq_true, Bool.and_eq_true, beq_iff_eq, decide_eq_true_eq] at h
    omega
  obtain ⟨n, rfl⟩ := nat_of hb.1
  obtain ⟨c, h1, h2, h3, h4⟩ := pad_nat h
  have e1 : i64B (n : Int) = true := by simp only [i64B, Bool.and_eq_true, decide_eq_true_eq]; omega
  have e2 : repC ([48] : List UInt8) (c : Int) = true := by simp only [repC, Bool.and_eq_true, decide_eq_true_eq, List.length_cons, List.length_nil]; omega
  have e3 : decide (List.length (Lib.repeatL ([48] : List UInt8) c) + List.length (Lib.itoa (n : Int)) ≤ maxStr) = true := decide_eq_true (by rw [Lib.repeatL_length]; simp only [List.length_cons, List.length_nil, maxStr]; omega)
  rw [r35, h1, wrapI (by omega) (by omega), e1, e2, Int.toNat_natCast, e3, h4]
  rfl
theorem c36 (n : Int) (h : twoB n = true) : RetX (Γ u mx) 36 [.i .i64 n] [] (.s (pad2 n)) [] := by
  refine ret_goes (Γ := Γ u mx) hP hZ none_ok (by kernel_rfl) ⟨0, ?_⟩
  simp only [twoB, decide_eq_true_eq] at h
  obtain ⟨n, rfl⟩ := nat_of h.1
  have e1 : IntKind.u8.wrap (IntKind.i64.wrap (48 + Int.tmod (IntKind.i64.wrap (Int.tdiv (n : Int) 10)) 10)) = ((48 + n / 10 : Nat) : Int) := by
    rw [show Int.tdiv (n : Int) 10 = ((n / 10 : Nat) : Int) from rfl, wrapI (n := ((n / 10 : Nat) : Int)) (by omega) (by omega), show Int.tmod ((n / 10 : Nat) : Int) 10 = ((n / 10 % 10 : Nat) : Int) from rfl, wrapI (by omega) (by omega), IntKind.wrap_u8]
    omega
  have e2 : IntKind.u8.wrap (IntKind.i64.wrap (48 + Int.tmod (n : Int) 10)) = ((48 + n % 10 : Nat) : Int) := by
    rw [show Int.tmod (n : Int) 10 = ((n % 10 : Nat) : Int) from rfl, wrapI (by omega) (by omega), IntKind.wrap_u8]
    omega
  rw [r36, e1, e2]
  rfl
theorem fields_b {t : Int} (g : knownB t = true) : 1 ≤ fY t ∧ fY t ≤ 9999 ∧ 1 ≤ fMo t ∧ fMo t ≤ 12 ∧ 1 ≤ fD t ∧ fD t ≤ 31 ∧ 0 ≤ fH t ∧ fH t < 24 ∧ 0 ≤ fMi t ∧ fMi t < 60 ∧ 0 ≤ fS t ∧ fS t < 60 := by
  obtain ⟨n, rfl, hn⟩ := known_nat g
  have e : ((n : Int) - 62135596800 + 62135596800).toNat = n := by omega
  obtain ⟨h1, h2, h3, h4, h5, h6, h7, h8, h9⟩ := (date_good n hn).1
  have := len_pos (dateOf n).y (dateOf n).mo
  simp only [fY, fMo, fD, fH, fMi, fS, g, cond_true, dtOf, e]
  omega
theorem h17_ok : CallsOK (Γ u mx) H17 := specs_ok (.cons (spI1_ok c12) (.cons (spI2_ok c35) .nil))
theorem h18_ok : CallsOK (Γ u mx) H18 := specs_ok (.cons (spI1_ok c13) (.cons (spI1_ok c36) .nil))
theorem pad_2 {n : Int} (h : 0 ≤ n ∧ n < 100) : padB n 2 = true := by simp [padB]; omega
theorem pad_4 {n : Int} (h : 0 ≤ n ∧ n < 10000) : padB n 4 = true := by simp [padB]; omega
theorem two_2 {n : Int} (h : 0 ≤ n ∧ n < 100) : twoB n = true := decide_eq_true h
theorem c17 (t : Int) (h : i64B t = true) : RetX (Γ u mx) 17 [.i .i64 t] [] (txtA t) [] := by
  refine ret_goes (Γ := Γ u mx) hP hZ h17_ok (by kernel_rfl) ⟨0, ?_⟩
  rw [r17, h]
  cases g : knownB t with
  | false => simp [txtA, textS, fE, g]
  | true =>
    have hb := fields_b g
    have e : fE t = 0 := by simp [fE, g]
    rw [pad_4 (n := fY t) (by omega), pad_2 (n := fMo t) (by omega), pad_2 (n := fD t) (by omega), pad_2 (n := fH t) (by omega), pad_2 (n := fMi t) (by omega), pad_2 (n := fS t) (by omega), e]
    unfold txtA textS
    rw [g, e]
    generalize fY t = a1
    generalize fMo t = a2
    generalize fD t = a3
    generalize fH t = a4
    generalize fMi t = a5
    generalize fS t = a6
    show _ = _
    kernel_rfl
theorem c18 (t : Int) (h : i64B t = true) : RetX (Γ u mx) 18 [.i .i64 t] [] (txtA t) [] := by
  refine ret_goes (Γ := Γ u mx) hP hZ h18_ok (by kernel_rfl) ⟨0, ?_⟩
  rw [r18, h]
  cases g : knownB t with
  | false => simp [txtA, textS, fE, g]
  | true =>
    have hb := fields_b g
    have e : fE t = 0 := by simp [fE, g]
    rw [Int.tdiv_eq_ediv_of_nonneg (show 0 ≤ fY t by omega), Int.tmod_eq_emod_of_nonneg (show 0 ≤ fY t by omega), wrapI (n := fY t / 100) (by omega) (by omega),
      two_2 (n := fY t / 100) (by omega), two_2 (n := fY t % 100) (by omega), two_2 (n := fMo t) (by omega), two_2 (n := fD t) (by omega), two_2 (n := fH t) (by omega), two_2 (n := fMi t) (by omega), two_2 (n := fS t) (by omega), e]
    unfold txtA textS
    rw [g, e]
    generalize fY t = a1
    generalize fMo t = a2
    generalize fD t = a3
    generalize fH t = a4
    generalize fMi t = a5
    generalize fS t = a6
    show _ = _
    kernel_rfl
end Go.Proofs.YtlmdkclchjcapaaDoor.V
