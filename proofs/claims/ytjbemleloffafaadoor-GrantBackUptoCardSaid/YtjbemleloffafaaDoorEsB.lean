/- Contracts: the bytes that stand as they are, digits, IndexByte; Builder.WriteByte and String. -/
import Derived.Test.YtjbemleloffafaaDoorEsA
namespace Go.Proofs.YtjbemleloffafaaDoor.V
open Go
set_option maxRecDepth 100000
set_option linter.unusedVariables false
set_option linter.unusedSimpArgs false
variable {mx : Int}

theorem low_ret (n : Int) : RetX (Γ mx) 104 [.i .u8 n] [] (.b (lowZ n)) [] := by
  refine ret_goes hP hZ ext_ok (by kernel_rfl) ⟨0, ?_⟩
  rw [r104]
  unfold lowZ
  cases h1 : decide (n ≥ 97) <;> cases h2 : decide (n ≤ 122) <;> cases h3 : decide (n ≥ 48) <;> simp only [cond_true, cond_false, Bool.true_and, Bool.false_and, Bool.and_true, Bool.and_false, Bool.true_or, Bool.false_or]
theorem hlow_ok : CallsOK (Γ mx) Hlow := specs_ok (.cons (spB_ok low_ret) .nil)
theorem plain_ret (n : Int) : RetX (Γ mx) 77 [.i .u8 n] [] (.b (plainZ n)) [] := by
  refine ret_goes hP hZ hlow_ok (by kernel_rfl) ⟨0, ?_⟩
  rw [r77]
  unfold plainZ
  cases lowZ n <;> cases h1 : decide (n ≥ 65) <;> cases h2 : decide (n ≤ 90) <;> cases h3 : (n == 45) <;> cases h4 : (n == 46) <;> cases h5 : (n == 95) <;> simp only [cond_true, cond_false, Bool.true_and, Bool.false_and, Bool.and_true, Bool.and_false, Bool.true_or, Bool.false_or, Bool.or_true, Bool.or_false]
theorem digit_ret (n : Int) : RetX (Γ mx) 78 [.i .u8 n] [] (.i .i64 (digitZ n)) [] := by
  refine ret_goes hP hZ ext_ok (by kernel_rfl) ⟨0, ?_⟩
  rw [r78]
  have e1 : 48 ≤ n → n ≤ 57 → IntKind.wrap .i64 (IntKind.wrap .u8 (n - 48)) = n - 48 := fun h1 h2 => by
    have : IntKind.u8.wrap (n - 48) = n - 48 := by
      simp only [IntKind.wrap, IntKind.signed, IntKind.bits, Bool.false_and, Bool.false_eq_true, if_false]; omega
    rw [this]; exact wrap_id (by omega) (by omega)
  have e2 : 65 ≤ n → n ≤ 70 → IntKind.wrap .i64 ((IntKind.wrap .i64 (IntKind.wrap .u8 (n - 65))) + 10) = n - 55 := fun h1 h2 => by
    have : IntKind.u8.wrap (n - 65) = n - 65 := by
      simp only [IntKind.wrap, IntKind.signed, IntKind.bits, Bool.false_and, Bool.false_eq_true, if_false]; omega
    have h3 : IntKind.wrap .i64 (n - 65) = n - 65 := wrap_id (by omega) (by omega)
    rw [this, h3, show n - 65 + 10 = n - 55 by omega]; exact wrap_id (by omega) (by omega)
  unfold digitZ
  by_cases h1 : 48 ≤ n
  · have d1 : decide (n ≥ 48) = true := decide_eq_true h1
    by_cases h2 : n ≤ 57
    · rw [d1, decide_eq_true h2, if_pos ⟨h1, h2⟩, e1 h1 h2]; rfl
    · rw [d1, decide_eq_false h2, if_neg (fun h => h2 h.2)]
      by_cases h3 : 65 ≤ n
      · have d3 : decide (n ≥ 65) = true := decide_eq_true h3
        by_cases h4 : n ≤ 70
        · rw [d3, decide_eq_true h4, if_pos ⟨h3, h4⟩, e2 h3 h4]; rfl
        · rw [d3, decide_eq_false h4, if_neg (fun h => h4 h.2)]; rfl
      · have d3 : decide (n ≥ 65) = false := decide_eq_false h3
        rw [d3, if_neg (fun h => h3 h.1)]; rfl
  · have d1 : decide (n ≥ 48) = false := decide_eq_false h1
    have d3 : decide (n ≥ 65) = false := decide_eq_false (by omega)
    rw [d1, d3, if_neg (fun h => h1 h.1), if_neg (by omega)]; rfl
theorem r83 (lab : Lab) (l : List UInt8) (n : Int) : evF (Γ mx) (callN (Γ mx) ext 5) lab 83 [.s l, .i .u8 n] [] = some (.b (amongZ l n), []) := by kernel_rfl
theorem r86 (lab : Lab) (l : List UInt8) (n : Int) : evF (Γ mx) (callN (Γ mx) ext 5) lab 86 [.s l, .i .u8 n] [] = some (.i .i64 (idxZ l n), []) := by kernel_rfl
theorem call5_ok : CallsOK (Γ mx) (callN (Γ mx) ext 5) := (runN_ok hP hZ hN ext_ok 5).2
theorem among_ret (l : List UInt8) (n : Int) : RetX (Γ mx) 83 [.s l, .i .u8 n] [] (.b (amongZ l n)) [] := ret_goes hP hZ call5_ok (by kernel_rfl) ⟨0, r83 _ l n⟩
theorem idx_ret (l : List UInt8) (n : Int) : RetX (Γ mx) 86 [.s l, .i .u8 n] [] (.i .i64 (idxZ l n)) [] := ret_goes hP hZ call5_ok (by kernel_rfl) ⟨0, r86 _ l n⟩
theorem r84a (lab : Lab) (n : Int) : evF (Γ mx) (callN (Γ mx) ext 5) lab 84 [.ptr 0 [] 108, .i .u8 n] [some (.box 108 (.agg 108 [.pnil, .sl 5 .nl []]))] = some (.err false, [usedBox, some (.arr 5 [.int .u8 n] false)]) := by kernel_rfl
theorem r84b (lab : Lab) (n : Int) (xs : List D) : evF (Γ mx) (callN (Γ mx) ext 5) lab 84 [.ptr 0 [] 108, .i .u8 n] [some (.box 108 (.agg 108 [.ptr 0 [] 108, .ref 5 1])), some (.arr 5 xs false)] = bif roomB (xs.length + 1) 1 then some (.err false, [usedBox, some (.arr 5 (xs ++ [.int .u8 n]) false)]) else none := by kernel_rfl
theorem r75a (lab : Lab) : evF (Γ mx) (callN (Γ mx) ext 5) lab 75 [.ptr 0 [] 108] [some (.box 108 (.agg 108 [.pnil, .sl 5 .nl []]))] = some (.s [], [some (.box 108 (.agg 108 [.pnil, .sl 5 .nl []]))]) := by kernel_rfl
theorem r75b (lab : Lab) (xs : List D) : evF (Γ mx) (callN (Γ mx) ext 5) lab 75 [.ptr 0 [] 108] [some (.box 108 (.agg 108 [.ptr 0 [] 108, .ref 5 1])), some (.arr 5 xs false)] =
    onNil xs none (bif ((xs.length : Int) == (xs.length : Int)) && decide ((xs.length : Int) ≤ 9223372036854775807) then onNil xs none (kBytes xs fun l => some (.s l, [usedBox, none])) else none) := by kernel_rfl
theorem wByte_ok : SpecOK (Γ mx) ⟨84, wByte⟩ := by
  intro args obs r obs' h
  change wByte args obs = some (true, r, obs') at h
  unfold wByte at h
  split at h
  · simp only [Option.some.injEq, Prod.mk.injEq, Bool.and_eq_true] at h
    obtain ⟨⟨⟨⟨h1, h2⟩, h3⟩, h4⟩, rfl, rfl⟩ := h
    obtain rfl := beq_id h1; obtain rfl := beq_id h2; obtain rfl := beq_id h3; obtain rfl := beq_id h4
    exact ret_goes hP hZ call5_ok (by kernel_rfl) ⟨0, r84a _ _⟩
  · simp only [Option.some.injEq, Prod.mk.injEq, Bool.and_eq_true] at h
    obtain ⟨⟨⟨⟨⟨⟨⟨h1, h2⟩, h3⟩, h4⟩, h5⟩, h6⟩, h7⟩, rfl, rfl⟩ := h
    obtain rfl := beq_id h1; obtain rfl := beq_id h2; obtain rfl := beq_id h3; obtain rfl := beq_id h4; obtain rfl := beq_id h5; obtain rfl := beq_id h6
    exact ret_goes hP hZ call5_ok (by kernel_rfl) ⟨0, by rw [r84b, h7]; rfl⟩
  · exact absurd h (by simp)
theorem bStr_ok : SpecOK (Γ mx) ⟨75, bStr⟩ := by
  intro args obs r obs' h
  change bStr args obs = some (true, r, obs') at h
  unfold bStr at h
  split at h
  · simp only [Option.some.injEq, Prod.mk.injEq, Bool.and_eq_true] at h
    obtain ⟨⟨⟨⟨h1, h2⟩, h3⟩, h4⟩, rfl, rfl⟩ := h
    obtain rfl := beq_id h1; obtain rfl := beq_id h2; obtain rfl := beq_id h3; obtain rfl := beq_id h4
    exact ret_goes hP hZ call5_ok (by kernel_rfl) ⟨0, r75a _⟩
  · rename_i xs
    simp only [Option.some.injEq, Prod.mk.injEq, Bool.and_eq_true] at h
    obtain ⟨⟨⟨⟨⟨⟨⟨h1, h2⟩, h3⟩, h4⟩, h5⟩, h6⟩, h7⟩, rfl, rfl⟩ := h
    obtain rfl := beq_id h1; obtain rfl := beq_id h2; obtain rfl := beq_id h3; obtain rfl := beq_id h4; obtain rfl := beq_id h5; obtain rfl := beq_id h6
    refine ret_goes hP hZ call5_ok (by kernel_rfl) ⟨0, ?_⟩
    rw [r75b]
    unfold textB at h7
    simp only [Bool.and_eq_true] at h7
    obtain ⟨⟨g1, g2⟩, g3⟩ := h7
    obtain ⟨l, hl⟩ := Option.isSome_iff_exists.1 g1
    cases xs with
    | nil => simp at g2
    | cons x xs =>
      simp only [onNil, beq_self_eq_true, Bool.true_and, g3, cond_true, kBytes, hl, unB, Option.getD_some]
      rfl
  · exact absurd h (by simp)
theorem esc_ok : CallsOK (Γ mx) Hesc := specs_ok (.cons (spB_ok plain_ret) (.cons (spB_ok digit_ret) (.cons (spSB_ok among_ret) (.cons (spSB_ok idx_ret) (.cons wByte_ok (.cons bStr_ok .nil))))))
end Go.Proofs.YtjbemleloffafaaDoor.V
