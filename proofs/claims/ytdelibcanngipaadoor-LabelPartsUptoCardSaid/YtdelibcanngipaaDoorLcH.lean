/- LabelEscapes and LabelBack are true at every text of at most so many letters. -/
import Derived.Test.YtdelibcanngipaaDoorLcG
import Derived.Test.YtdelibcanngipaaDoorLbG
namespace Go.Proofs.YtdelibcanngipaaDoor.V
open Go
set_option maxRecDepth 100000
set_option linter.unusedVariables false
set_option linter.unusedSimpArgs false

theorem short_le {p : List UInt8} (h : short40 p = true) : p.length ≤ 1099511627776 := by simpa [short40] using h
theorem short_of {p : List UInt8} (h : p.length ≤ 1099511627776) : short40 p = true := by simpa [short40] using h
theorem hle_ok : CallsOK Γ Hle := specs_ok (.cons (sp0_ok fun _ => awake_ret) (.cons (sp1_ok fun p h => un_ret (short_le h)) (.cons (sp1_ok fun p h => refUn_ret (short_le h)) (.cons (sp1_ok fun p h => esc_ret (short_le h)) (.cons (sp1_ok fun p h => refEsc_ret (short_le h)) .nil)))))
theorem law4 (s : List UInt8) (hs : s.length ≤ 1048576) : Ret Γ 4 [.s s] (.b true) := by
  refine (ret_goes hP hZ hle_ok (by kernel_rfl) ⟨0, ?_⟩).ret (by kernel_rfl)
  rw [r4]
  simp only [short_of (show s.length ≤ 1099511627776 by omega), cond_true, beq_self_eq_true]
theorem unE_zero {s : List UInt8} (h : (unV s).isSome = true) : unE s = 0 := by unfold unE; rw [h]; rfl
theorem unS_esc (s : List UInt8) : unS (escV s) = s ∧ unE (escV s) = 0 := by
  unfold unS unE; rw [un_esc s]; exact ⟨rfl, rfl⟩
theorem back_goes (s : List UInt8) (hs : s.length ≤ 1048576) : ∀ (rest pre : List UInt8) (i : Int), escV s = pre ++ rest → i = (pre.length : Int) → rest.all okB = true →
    Goes Γ Hle 6 4 ⟨[(0, .s s), (3, .s (escV s)), (4, .s (unS (escV s))), (5, .i .i64 (unE (escV s))), (6, .i .i64 i)], []⟩ (.b true, [])
  | [], pre, i, he, hi, hk => by
    subst hi
    refine Goes.step ⟨0, ?_⟩
    rw [r6_4a]
    have d1 : decide ((pre.length : Int) < ((escV s).length : Int)) = false := decide_eq_false (by rw [he]; simp)
    obtain ⟨e1, e2⟩ := unS_esc s
    have z : ((0 : Int) == 0) = true := rfl
    simp only [d1, cond_false, short_of (show s.length ≤ 1099511627776 by omega), cond_true, e1, e2, z, beq_self_eq_true]
    cases hv : unV s with
    | none =>
      have : unE s = 5 := by unfold unE; rw [hv]; rfl
      rw [this]; rfl
    | some c =>
      have h0 : unE s = 0 := unE_zero (by rw [hv]; rfl)
      have h1 : unS s = c := by unfold unS; rw [hv]; rfl
      have hc := un_len _ s c (Nat.le_refl _) hv
      have z' : ((0 : Int) != 0) = false := rfl
      rw [h0, h1, z', short_of (show c.length ≤ 1099511627776 by omega), esc_un _ s c (Nat.le_refl _) hv]
      simp only [cond_false, cond_true, beq_self_eq_true]
  | c :: r, pre, i, he, hi, hk => by
    subst hi
    have hlen := esc_len s
    have hpl : pre.length + (r.length + 1) = (escV s).length := by rw [he]; simp
    simp only [List.all_cons, Bool.and_eq_true] at hk
    obtain ⟨k, hk'⟩ := back_goes s hs r (pre ++ [c]) ((pre.length : Int) + 1) (by rw [he]; simp) (by simp) hk.2
    refine Goes.step ⟨k, ?_⟩
    rw [r6_4a]
    have d1 : decide ((pre.length : Int) < ((escV s).length : Int)) = true := decide_eq_true (by rw [he]; simp <;> omega)
    have hw : IntKind.wrap .i64 ((pre.length : Int) + 1) = (pre.length : Int) + 1 := wrap_id (by omega) (by omega)
    have hid : ∀ {R : Type} (K : UInt8 → Option R), idx (escV s) (pre.length : Int) K = K c := fun K => by rw [he]; exact idx_mid _ _ _ K
    have ho := hk.1
    unfold okB at ho
    simp only [Bool.and_eq_true, Bool.not_eq_true'] at ho
    simp only [d1, cond_true, hid, ho.1.1.1, ho.1.1.2, ho.1.2, ho.2, cond_false, hw]
    exact hk'
theorem law6 (s : List UInt8) (hs : s.length ≤ 1048576) : Ret Γ 6 [.s s] (.b true) := by
  have hlen := esc_len s
  obtain ⟨k, hk⟩ := back_goes s hs (escV s) [] 0 rfl rfl (esc_all s)
  refine (ret_goes hP hZ hle_ok (by kernel_rfl) ⟨k, ?_⟩).ret (by kernel_rfl)
  rw [r6]
  simp only [short_of (show s.length ≤ 1099511627776 by omega), short_of (show (escV s).length ≤ 1099511627776 by omega), cond_true]
  exact hk
end Go.Proofs.YtdelibcanngipaaDoor.V
