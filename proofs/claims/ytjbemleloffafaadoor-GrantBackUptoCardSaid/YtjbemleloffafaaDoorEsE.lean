/- label.Unescape from its head on; the document's Escape and Unescape. -/
import Derived.Test.YtjbemleloffafaaDoorEsD
namespace Go.Proofs.YtjbemleloffafaaDoor.V
open Go
set_option maxRecDepth 100000
set_option linter.unusedVariables false
set_option linter.unusedSimpArgs false
variable {mx : Int}

theorem i0 {R : Type} {α : Type} (r : List α) (c : α) (K : α → Option R) : idx (c :: r) 0 K = K c := idx_mid [] r c K
theorem i1 {R : Type} {α : Type} (r : List α) (c d : α) (K : α → Option R) : idx (c :: d :: r) 1 K = K d := idx_mid1 [] r c d K
theorem i2 {R : Type} {α : Type} (r : List α) (c d e : α) (K : α → Option R) : idx (c :: d :: e :: r) 2 K = K e := idx_mid2 [] r c d e K
theorem un_first (s : List UInt8) (hl : s.length ≤ 1099511627776) : Goes (Γ mx) Hesc 60 3 ⟨[(0, .s s), (4, .snil), (5, .i .i64 0)], []⟩ (unR [] (unV s), []) := by
  match s, hl with
  | [], hl => exact Goes.step ⟨0, by rw [r60_3a]; rfl⟩
  | c :: r, hl =>
    simp only [List.length_cons] at hl
    refine Goes.step ?_
    have d1 : decide ((0 : Int) < ((c :: r).length : Int)) = true := decide_eq_true (by simp <;> omega)
    have hw : IntKind.wrap .i64 ((0 : Int) + 1) = 1 := by decide
    have hw2 : IntKind.wrap .i64 ((0 : Int) + 2) = 2 := by decide
    have hw3 : IntKind.wrap .i64 ((2 : Int) + 1) = 3 := by decide
    by_cases hc : c = 37
    · subst hc
      match r, hl with
      | [], hl => exact ⟨0, by rw [r60_3a]; rfl⟩
      | [d], hl =>
        refine ⟨0, ?_⟩
        rw [r60_3a]
        have d2 : decide (IntKind.wrap .i64 (((([37, d] : List UInt8).length : Nat) : Int) - 0) < 3) = true := rfl
        simp only [d1, cond_true, i0, is37, decide_true, d2]
        simp [unV, unR]
      | h :: l :: r', hl =>
        simp only [List.length_cons] at hl
        have d2 : decide (IntKind.wrap .i64 ((((37 :: h :: l :: r').length : Nat) : Int) - 0) < 3) = false := by
          have e : (((37 :: h :: l :: r').length : Nat) : Int) - 0 = (r'.length : Int) + 3 := by simp <;> omega
          rw [e, wrap_id (by omega) (by omega)]
          exact decide_eq_false (by omega)
        rw [unV_37]
        by_cases h1 : digV h < 0
        · refine ⟨0, ?_⟩
          rw [r60_3a]
          simp only [d1, cond_true, cond_false, i0, is37, decide_true, d2, hw, hw2, i1, i2, dgt, decide_eq_true h1, if_pos (Or.inl h1), unR]
        · by_cases h2 : digV l < 0
          · refine ⟨0, ?_⟩
            rw [r60_3a]
            simp only [d1, cond_true, cond_false, i0, is37, decide_true, d2, hw, hw2, i1, i2, dgt, decide_eq_false h1, decide_eq_true h2, if_pos (Or.inr h2), unR]
          · rw [if_neg (by rintro (h | h) <;> contradiction)]
            cases hp : plainB (byteV h l) with
            | true =>
              refine ⟨0, ?_⟩
              rw [r60_3a]
              simp only [d1, cond_true, cond_false, i0, is37, decide_true, d2, hw, hw2, i1, i2, dgt, decide_eq_false h1, decide_eq_false h2, val14 h1 h2, among_plain, hp, if_true, unR]
            | false =>
              obtain ⟨k, hk⟩ := un_goes _ r' [37, h, l] [byteV h l] (37 :: h :: l :: r') 3 (Nat.le_refl _) (by simp) (by simp) (by simp <;> omega) (by simp <;> omega)
              refine ⟨k, ?_⟩
              rw [r60_3a]
              simp only [d1, cond_true, cond_false, i0, is37, decide_true, d2, hw, hw2, hw3, i1, i2, dgt, decide_eq_false h1, decide_eq_false h2, val14 h1 h2, among_plain, hp]
              rw [show [D.int .u8 ((byteV h l).toNat : Int)] = bytesD [byteV h l] from rfl, hk]
              simp only [Bool.false_eq_true, if_false, unR_more, List.nil_append]
    · cases hp : plainB c with
      | true =>
        obtain ⟨k, hk⟩ := un_goes _ r [c] [c] (c :: r) 1 (Nat.le_refl _) (by simp) (by simp) (by simp <;> omega) (by simp <;> omega)
        refine ⟨k, ?_⟩
        rw [r60_3a]
        simp only [d1, cond_true, cond_false, i0, is37, decide_eq_false hc, among_plain, hp, Bool.not_true, hw]
        rw [show [D.int .u8 (c.toNat : Int)] = bytesD [c] from rfl, hk, unV_plain hc hp, unR_more, List.nil_append]
      | false =>
        refine ⟨0, ?_⟩
        rw [r60_3a]
        simp only [d1, cond_true, cond_false, i0, is37, decide_eq_false hc, among_plain, hp, Bool.not_false, unV_bad hc hp, unR]
def unS (s : List UInt8) : List UInt8 := (unV s).getD []
def unE (s : List UInt8) : Int := bif (unV s).isSome then 0 else 5
theorem unR_eq (s : List UInt8) : unR [] (unV s) = .tuple [.s (unS s), .i .i64 (unE s)] := by
  unfold unR unS unE
  cases unV s <;> rfl
theorem un_ret {s : List UInt8} (hl : s.length ≤ 1099511627776) : RetX (Γ mx) 60 [.s s] [] (.tuple [.s (unS s), .i .i64 (unE s)]) [] := by
  refine ret_goes hP hZ esc_ok (by kernel_rfl) ?_
  obtain ⟨n, hn⟩ := un_first s hl
  exact ⟨n, by rw [r60, ← unR_eq]; exact hn⟩

/-! ### the document's -/
theorem plainZ_B (c : UInt8) : plainZ (c.toNat : Int) = plainB c := rfl
theorem cut_one (pre r : List UInt8) (c : UInt8) : List.take (Int.toNat ((pre.length : Int) + 1) - Int.toNat (pre.length : Int)) (List.drop (Int.toNat (pre.length : Int)) (pre ++ c :: r)) = [c] := by
  rw [show Int.toNat ((pre.length : Int) + 1) - Int.toNat (pre.length : Int) = 1 by omega, show Int.toNat (pre.length : Int) = pre.length by omega]
  simp
theorem hxA (c : UInt8) : List.take ((Int.toNat (IntKind.wrap .u8 ((IntKind.wrap .u8 (Int.tdiv ((c.toNat : Int)) 16)) + 1))) - (Int.toNat (IntKind.wrap .u8 (Int.tdiv ((c.toNat : Int)) 16)))) (List.drop (Int.toNat (IntKind.wrap .u8 (Int.tdiv ((c.toNat : Int)) 16))) hxL) = [hx (c.toNat / 16)] :=
  (by decide +kernel : ∀ n : Nat, n < 256 → List.take ((Int.toNat (IntKind.wrap .u8 ((IntKind.wrap .u8 (Int.tdiv ((n : Int)) 16)) + 1))) - (Int.toNat (IntKind.wrap .u8 (Int.tdiv ((n : Int)) 16)))) (List.drop (Int.toNat (IntKind.wrap .u8 (Int.tdiv ((n : Int)) 16))) hxL) = [hx (n / 16)]) c.toNat c.toNat_lt
theorem hxB (c : UInt8) : List.take ((Int.toNat (IntKind.wrap .u8 ((Int.tmod ((c.toNat : Int)) 16) + 1))) - (Int.toNat (Int.tmod ((c.toNat : Int)) 16))) (List.drop (Int.toNat (Int.tmod ((c.toNat : Int)) 16)) hxL) = [hx (c.toNat % 16)] :=
  (by decide +kernel : ∀ n : Nat, n < 256 → List.take ((Int.toNat (IntKind.wrap .u8 ((Int.tmod ((n : Int)) 16) + 1))) - (Int.toNat (Int.tmod ((n : Int)) 16))) (List.drop (Int.toNat (Int.tmod ((n : Int)) 16)) hxL) = [hx (n % 16)]) c.toNat c.toNat_lt
theorem hxC (c : UInt8) : (decide ((0:Int) ≤ (IntKind.wrap .u8 ((IntKind.wrap .u8 (Int.tdiv ((c.toNat : Int)) 16)) + 1))) && decide ((IntKind.wrap .u8 ((IntKind.wrap .u8 (Int.tdiv ((c.toNat : Int)) 16)) + 1)) ≤ (List.length hxL : Int))) = true :=
  (by decide +kernel : ∀ n : Nat, n < 256 → (decide ((0:Int) ≤ (IntKind.wrap .u8 ((IntKind.wrap .u8 (Int.tdiv ((n : Int)) 16)) + 1))) && decide ((IntKind.wrap .u8 ((IntKind.wrap .u8 (Int.tdiv ((n : Int)) 16)) + 1)) ≤ (List.length hxL : Int))) = true) c.toNat c.toNat_lt
theorem hxD (c : UInt8) : (decide ((0:Int) ≤ (IntKind.wrap .u8 (Int.tdiv ((c.toNat : Int)) 16))) && decide ((IntKind.wrap .u8 (Int.tdiv ((c.toNat : Int)) 16)) ≤ (Int.toNat (IntKind.wrap .u8 ((IntKind.wrap .u8 (Int.tdiv ((c.toNat : Int)) 16)) + 1)) : Int))) = true :=
  (by decide +kernel : ∀ n : Nat, n < 256 → (decide ((0:Int) ≤ (IntKind.wrap .u8 (Int.tdiv ((n : Int)) 16))) && decide ((IntKind.wrap .u8 (Int.tdiv ((n : Int)) 16)) ≤ (Int.toNat (IntKind.wrap .u8 ((IntKind.wrap .u8 (Int.tdiv ((n : Int)) 16)) + 1)) : Int))) = true) c.toNat c.toNat_lt
theorem hxE (c : UInt8) : (decide ((0:Int) ≤ (IntKind.wrap .u8 ((Int.tmod ((c.toNat : Int)) 16) + 1))) && decide ((IntKind.wrap .u8 ((Int.tmod ((c.toNat : Int)) 16) + 1)) ≤ (List.length hxL : Int))) = true :=
  (by decide +kernel : ∀ n : Nat, n < 256 → (decide ((0:Int) ≤ (IntKind.wrap .u8 ((Int.tmod ((n : Int)) 16) + 1))) && decide ((IntKind.wrap .u8 ((Int.tmod ((n : Int)) 16) + 1)) ≤ (List.length hxL : Int))) = true) c.toNat c.toNat_lt
theorem hxF (c : UInt8) : (decide ((0:Int) ≤ (Int.tmod ((c.toNat : Int)) 16)) && decide ((Int.tmod ((c.toNat : Int)) 16) ≤ (Int.toNat (IntKind.wrap .u8 ((Int.tmod ((c.toNat : Int)) 16) + 1)) : Int))) = true :=
  (by decide +kernel : ∀ n : Nat, n < 256 → (decide ((0:Int) ≤ (Int.tmod ((n : Int)) 16)) && decide ((Int.tmod ((n : Int)) 16) ≤ (Int.toNat (IntKind.wrap .u8 ((Int.tmod ((n : Int)) 16) + 1)) : Int))) = true) c.toNat c.toNat_lt
theorem fits_max {n : Nat} (h : n ≤ 70368744177664) : decide (n ≤ maxStr) = true := decide_eq_true (by unfold maxStr; omega)

theorem refEsc_goes : ∀ (rest pre out s : List UInt8) (i : Int), s = pre ++ rest → i = (pre.length : Int) → s.length ≤ 1099511627776 → out.length + 3 * rest.length ≤ 4398046511104 →
    Goes (Γ mx) Hesc 58 4 ⟨[(0, .s s), (3, .s hxL), (4, .s out), (5, .i .i64 i)], []⟩ (.s (out ++ escV rest), [])
  | [], pre, out, s, i, hs, hi, hl, hb => by
    refine Goes.step ⟨0, ?_⟩
    rw [r58_4a]
    subst hs hi
    have d1 : decide ((pre.length : Int) < (pre.length : Int)) = false := decide_eq_false (by omega)
    simp only [List.append_nil, d1, cond_false, escV]
  | c :: r, pre, out, s, i, hs, hi, hl, hb => by
    subst hs hi
    simp only [List.length_append, List.length_cons] at hl hb
    refine Goes.step ?_
    have d1 : decide ((pre.length : Int) < ((pre ++ c :: r).length : Int)) = true := decide_eq_true (by simp <;> omega)
    have hw : IntKind.wrap .i64 ((pre.length : Int) + 1) = (pre.length : Int) + 1 := wrap_id (by omega) (by omega)
    cases hp : plainB c with
    | true =>
      obtain ⟨k, hk⟩ := refEsc_goes r (pre ++ [c]) (out ++ [c]) (pre ++ c :: r) ((pre.length : Int) + 1) (by simp) (by simp) (by simp <;> omega) (by simp <;> omega)
      refine ⟨k, ?_⟩
      rw [r58_4a]
      have d2 : (decide ((0 : Int) ≤ (pre.length : Int) + 1) && decide ((pre.length : Int) + 1 ≤ ((pre ++ c :: r).length : Int))) = true := by simp <;> omega
      have d3 : (decide ((0 : Int) ≤ (pre.length : Int)) && decide ((pre.length : Int) ≤ (Int.toNat ((pre.length : Int) + 1) : Int))) = true := by simp <;> omega
      have d4 : decide (out.length + ([c] : List UInt8).length ≤ maxStr) = true := fits_max (by simp <;> omega)
      simp only [d1, cond_true, idx_mid, plainZ_B, hp, hw, d2, d3, cut_one, d4]
      rw [hk]
      simp [escV, encB, hp]
    | false =>
      obtain ⟨k, hk⟩ := refEsc_goes r (pre ++ [c]) (out ++ (([37] ++ [hx (c.toNat / 16)]) ++ [hx (c.toNat % 16)])) (pre ++ c :: r) ((pre.length : Int) + 1) (by simp) (by simp) (by simp <;> omega) (by simp <;> omega)
      refine ⟨k, ?_⟩
      rw [r58_4a]
      have d3 : decide (([37] : List UInt8).length + [hx (c.toNat / 16)].length ≤ maxStr) = true := fits_max (by simp)
      have d4 : decide ((([37] : List UInt8) ++ [hx (c.toNat / 16)]).length + [hx (c.toNat % 16)].length ≤ maxStr) = true := fits_max (by simp)
      have d5 : decide (out.length + ((([37] : List UInt8) ++ [hx (c.toNat / 16)]) ++ [hx (c.toNat % 16)]).length ≤ maxStr) = true := fits_max (by simp <;> omega)
      simp only [d1, cond_true, cond_false, idx_mid, plainZ_B, hp, hw, hxA, hxB, hxC, hxD, hxE, hxF, d3, d4, d5]
      rw [hk]
      simp [escV, encB, hp]
theorem refEsc_ret {s : List UInt8} (hl : s.length ≤ 1099511627776) : RetX (Γ mx) 58 [.s s] [] (.s (escV s)) [] := by
  refine ret_goes hP hZ esc_ok (by kernel_rfl) ?_
  obtain ⟨n, hn⟩ := refEsc_goes s [] [] s 0 rfl rfl hl (by simp <;> omega)
  exact ⟨n, by rw [r58]; exact hn⟩
end Go.Proofs.YtjbemleloffafaaDoor.V
