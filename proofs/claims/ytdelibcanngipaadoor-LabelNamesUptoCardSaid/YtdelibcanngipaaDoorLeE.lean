/- LabelNames at every text of at most so many letters. -/
import Derived.Test.YtdelibcanngipaaDoorLeD
import Derived.Test.YtdelibcanngipaaDoorLbG
namespace Go.Proofs.YtdelibcanngipaaDoor.V
open Go
set_option maxRecDepth 100000
set_option linter.unusedVariables false
set_option linter.unusedSimpArgs false

theorem s30_le {p : List UInt8} (h : s30 p = true) : p.length ≤ 1073741824 := by simpa [s30] using h
theorem s32_le {p : List UInt8} (h : s32 p = true) : p.length < 4294967281 := by simpa [s32] using h
theorem hb1_ok (mx : Int) : CallsOK (Γm mx) Hb1 := specs_ok (.cons (sp1_ok fun s h => addr_ret mx s h) (.cons (spSB_ok fun l n => among_ret l n).more .nil))
theorem hb2_ok : CallsOK Γ Hb2 := specs_ok (.cons (spB_ok fun n => low_ret n) (.cons (sp1_ok fun s h => four_ret ext_ok s (by have := s30_le h; omega)) .nil))
theorem hb3_ok : CallsOK Γ Hb3 := specs_ok (.cons (sp1_ok fun s h => clean_ret s (s30_le h)) (.cons (sp1_ok fun s h => refClean_ret ext_ok s (s30_le h)) .nil))
theorem e45 (c : UInt8) : ((c.toNat : Int) == 45) = (c == 45) := by
  rw [Bool.eq_iff_iff, beq_iff_eq, beq_iff_eq]
  have h0 : (45 : UInt8).toNat = 45 := rfl
  exact ⟨fun h => UInt8.toNat_inj.1 (by omega), fun h => by subst h; rfl⟩
theorem e46 (c : UInt8) : ((c.toNat : Int) == 46) = (c == 46) := by
  rw [Bool.eq_iff_iff, beq_iff_eq, beq_iff_eq]
  have h0 : (46 : UInt8).toNat = 46 := rfl
  exact ⟨fun h => UInt8.toNat_inj.1 (by omega), fun h => by subst h; rfl⟩
theorem among_low (c : UInt8) : amongZ ([97, 98, 99, 100, 101, 102, 103, 104, 105, 106, 107, 108, 109, 110, 111, 112, 113, 114, 115, 116, 117, 118, 119, 120, 121, 122, 48, 49, 50, 51, 52, 53, 54, 55, 56, 57] : List UInt8) (c.toNat : Int) = lowB c :=
  (by decide +kernel : ∀ n : Nat, n < 256 → amongZ ([97, 98, 99, 100, 101, 102, 103, 104, 105, 106, 107, 108, 109, 110, 111, 112, 113, 114, 115, 116, 117, 118, 119, 120, 121, 122, 48, 49, 50, 51, 52, 53, 54, 55, 56, 57] : List UInt8) (n : Int) = lowZ (n : Int)) c.toNat c.toNat_lt

/-! ### label.Bucket -/
theorem bucket_goes (mx : Int) (s : List UInt8) (hs : s.length ≤ 1099511627776) : ∀ (rest pre : List UInt8) (i : Int), s = pre ++ rest → i = (pre.length : Int) →
    Goes (Γm mx) Hb1 10 4 ⟨[(0, .s s), (18, .i .i64 (s.length : Int)), (19, .i .i64 i)], []⟩ (.b (la (decide (pre = [])) rest), [])
  | [], pre, i, he, hi => by
    subst hi
    refine Goes.step ⟨0, ?_⟩
    rw [r10_4a]
    have d1 : decide ((pre.length : Int) < (s.length : Int)) = false := decide_eq_false (by rw [he]; simp)
    rw [d1]; rfl
  | c :: r, pre, i, he, hi => by
    subst hi
    have hsl : s.length = pre.length + (r.length + 1) := by rw [he]; simp
    have d1 : decide ((pre.length : Int) < (s.length : Int)) = true := decide_eq_true (by omega)
    have hw : IntKind.wrap .i64 ((pre.length : Int) + 1) = (pre.length : Int) + 1 := wrap_id (by omega) (by omega)
    have hw2 : IntKind.wrap .i64 ((s.length : Int) - 1) = (s.length : Int) - 1 := wrap_id (by omega) (by omega)
    have hid : ∀ {R : Type} (K : UInt8 → Option R), idx s (pre.length : Int) K = K c := fun K => by rw [he]; exact idx_mid _ _ _ K
    obtain ⟨k, hk⟩ := bucket_goes mx s hs r (pre ++ [c]) ((pre.length : Int) + 1) (by rw [he]; simp) (by simp)
    have hne : decide (pre ++ [c] = []) = false := decide_eq_false (by simp)
    rw [hne] at hk
    refine Goes.step ⟨k, ?_⟩
    rw [r10_4a]
    simp only [d1, cond_true, hid, among_low, hw]
    cases hl : lowB c with
    | true =>
      simp only [cond_true]
      rw [hk]
      cases r <;> simp [la, hl]
    | false =>
      simp only [cond_false, bne, e45, e46, hw2]
      cases r with
      | nil =>
        have e : ((pre.length : Int) == (s.length : Int) - 1) = true := by rw [beq_iff_eq, hsl]; simp
        simp only [e, la, hl]
        cases c == 45 <;> cases c == 46 <;> cases ((pre.length : Int) == 0) <;> rfl
      | cons d r =>
        have e : ((pre.length : Int) == (s.length : Int) - 1) = false := by rw [hsl, beq_eq_false_iff_ne]; simp <;> omega
        have hid2 : ∀ {R : Type} (K : UInt8 → Option R), idx s ((pre.length : Int) + 1) K = K d := fun K => by rw [he]; exact idx_mid1 _ _ _ _ K
        have e0 : ((pre.length : Int) == 0) = decide (pre = []) := by
          rw [Bool.eq_iff_iff, beq_iff_eq, decide_eq_true_eq, ← List.length_eq_zero_iff]; omega
        simp only [e, e0, hid2, cond_false]
        rw [la]
        simp only [hl, Bool.false_eq_true, if_false]
        have bq : ∀ {x y : UInt8}, ¬ x = y → (x == y) = false := fun h => by simpa using h
        by_cases h0 : pre = []
        · subst h0
          by_cases hc1 : c = 45
          · subst hc1; simp
          · by_cases hc2 : c = 46
            · subst hc2; simp
            · simp [hc1, hc2, bq hc1, bq hc2]
        · by_cases hc1 : c = 45
          · subst hc1
            by_cases hd1 : d = 46
            · subst hd1; simp [h0]
            · by_cases hd2 : d = 45
              · subst hd2; simpa [h0] using hk
              · simpa [h0, hd1, hd2, bq hd1, bq hd2] using hk
          · by_cases hc2 : c = 46
            · subst hc2
              by_cases hd1 : d = 46
              · subst hd1; simp [h0]
              · by_cases hd2 : d = 45
                · subst hd2; simp [h0]
                · simpa [h0, hd1, hd2, bq hd1, bq hd2] using hk
            · simp [hc1, hc2, bq hc1, bq hc2]
theorem bucket_ret (mx : Int) (s : List UInt8) (h : s30 s = true) : RetX (Γm mx) 10 [.s s] [] (.b (bucketV s)) [] := by
  have hl := s30_le h
  have h32 : s32 s = true := by simpa [s32] using (by omega)
  obtain ⟨k, hk⟩ := bucket_goes mx s (by omega) s [] 0 rfl rfl
  refine ret_goes (Γ := Γm mx) hP hZ (hb1_ok mx) (by kernel_rfl) ⟨k, ?_⟩
  rw [r10]
  by_cases h1 : s.length < 3
  · have : bucketV s = false := by
      have : decide (3 ≤ s.length) = false := decide_eq_false (by omega)
      simp [bucketV, this]
    rw [decide_eq_true (show (s.length : Int) < 3 by omega), this]; rfl
  · by_cases h2 : s.length > 63
    · have : bucketV s = false := by
        have : decide (s.length ≤ 63) = false := decide_eq_false (by omega)
        simp [bucketV, this]
      rw [decide_eq_false (show ¬ (s.length : Int) < 3 by omega), decide_eq_true (show (s.length : Int) > 63 by omega), this]; rfl
    · have e : bucketV s = (!addrV s && la true s) := by
        have d1 : decide (3 ≤ s.length) = true := decide_eq_true (by omega)
        have d2 : decide (s.length ≤ 63) = true := decide_eq_true (by omega)
        simp only [bucketV, d1, d2, Bool.true_and]
      rw [decide_eq_false (show ¬ (s.length : Int) < 3 by omega), decide_eq_false (show ¬ (s.length : Int) > 63 by omega), h32, e]
      cases addrV s with
      | true => rfl
      | false =>
        simp only [cond_false, cond_true, Bool.not_false, Bool.true_and]
        exact hk

/-! ### ref.Bucket -/
theorem refBucket_goes (s : List UInt8) (hs : s.length ≤ 1099511627776) : ∀ (rest pre : List UInt8) (p : UInt8) (i : Int), s = pre ++ (p :: rest) → i = (pre.length : Int) + 1 →
    Goes Γ Hb2 11 4 ⟨[(0, .s s), (3, .i .i64 i)], []⟩ (.b (rb p rest), [])
  | [], pre, p, i, he, hi => by
    subst hi
    refine Goes.step ⟨0, ?_⟩
    rw [r11_4a]
    have d1 : decide ((pre.length : Int) + 1 < (s.length : Int)) = false := decide_eq_false (by rw [he]; simp)
    rw [d1]; rfl
  | c :: r, pre, p, i, he, hi => by
    subst hi
    have hsl : s.length = pre.length + (r.length + 1 + 1) := by rw [he]; simp
    have d1 : decide ((pre.length : Int) + 1 < (s.length : Int)) = true := decide_eq_true (by omega)
    have d2 : decide ((pre.length : Int) + 1 > 0) = true := decide_eq_true (by omega)
    have hw : IntKind.wrap .i64 ((pre.length : Int) + 1 + 1) = ((pre ++ [p]).length : Int) + 1 := by rw [wrap_id (by omega) (by omega)]; simp
    have hw2 : IntKind.wrap .i64 ((pre.length : Int) + 1 - 1) = (pre.length : Int) := by rw [wrap_id (by omega) (by omega)]; omega
    have hid : ∀ {R : Type} (K : UInt8 → Option R), idx s ((pre.length : Int) + 1) K = K c := fun K => by rw [he]; exact idx_mid1 _ _ _ _ K
    have hid2 : ∀ {R : Type} (K : UInt8 → Option R), idx s (pre.length : Int) K = K p := fun K => by rw [he]; exact idx_mid _ _ _ K
    obtain ⟨k, hk⟩ := refBucket_goes s hs r (pre ++ [p]) c _ (by rw [he]; simp) rfl
    refine Goes.step ⟨k, ?_⟩
    rw [r11_4a]
    simp only [d1, d2, cond_true, hid, hid2, hw, hw2, bne, e45, e46]
    have el : ∀ x : UInt8, lowZ (x.toNat : Int) = lowB x := fun _ => rfl
    simp only [el, rb]
    have bq : ∀ {x y : UInt8}, ¬ x = y → (x == y) = false := fun h => by simpa using h
    cases hl : lowB c with
    | true => simpa using hk
    | false =>
      by_cases hc1 : c = 45
      · subst hc1
        by_cases hp : p = 45
        · subst hp; simpa [low45] using hk
        · cases hlp : lowB p with
          | true => simpa [hlp] using hk
          | false => simp [hp, bq hp]
      · by_cases hc2 : c = 46
        · subst hc2
          cases hlp : lowB p with
          | true => simpa [hlp] using hk
          | false => simp
        · simp [hc1, hc2, bq hc1, bq hc2]
theorem lastB_snoc : ∀ (m : List UInt8) (z : UInt8), lastB (m ++ [z]) = lowB z
  | [], z => rfl
  | [a], z => rfl
  | a :: b :: m, z => by
    show lastB (b :: (m ++ [z])) = _
    exact lastB_snoc (b :: m) z
theorem refBucket_ret (s : List UInt8) (h : s30 s = true) : RetX Γ 11 [.s s] [] (.b (bucketV s)) [] := by
  have hl := s30_le h
  by_cases h1 : s.length < 3
  · refine ret_goes hP hZ hb2_ok (by kernel_rfl) ⟨0, ?_⟩
    have : bucketV s = false := by
      have : decide (3 ≤ s.length) = false := decide_eq_false (by omega)
      simp [bucketV, this]
    rw [r11, decide_eq_true (show (s.length : Int) < 3 by omega), this]; rfl
  · by_cases h2 : s.length > 63
    · refine ret_goes hP hZ hb2_ok (by kernel_rfl) ⟨0, ?_⟩
      have : bucketV s = false := by
        have : decide (s.length ≤ 63) = false := decide_eq_false (by omega)
        simp [bucketV, this]
      rw [r11, decide_eq_false (show ¬ (s.length : Int) < 3 by omega), decide_eq_true (show (s.length : Int) > 63 by omega), this]; rfl
    · match s, h1, h, hl, h2 with
      | c :: d :: r, h1, h, hl, h2 =>
        have e : bucketV (c :: d :: r) = (!addrV (c :: d :: r) && (lowB c && (lastB (c :: d :: r) && rb c (d :: r)))) := by
          have d1 : decide (3 ≤ (c :: d :: r).length) = true := decide_eq_true (by omega)
          have d2 : decide ((c :: d :: r).length ≤ 63) = true := decide_eq_true (by omega)
          simp only [bucketV, d1, d2, Bool.true_and, la_true c (d :: r) (by simp)]
        have hid : ∀ {R : Type} (K : UInt8 → Option R), idx (c :: d :: r) 0 K = K c := fun K => by exact idx_mid [] (d :: r) c K
        have el : ∀ x : UInt8, lowZ (x.toNat : Int) = lowB x := fun _ => rfl
        obtain ⟨k, hk⟩ := refBucket_goes (c :: d :: r) (by omega) (d :: r) [] c 1 rfl rfl
        have hfirst : lowB c = true → ∃ k, L Γ Hb2 11 k (todoAt Γ 11 4) ⟨[(0, .s (c :: d :: r)), (3, .i .i64 0)], []⟩ = some (.b (rb c (d :: r)), []) := fun hlc => by
          refine Goes.step (Γ := Γ) (call := Hb2) (f := 11) (key := 4) ⟨k, ?_⟩
          rw [r11_4a]
          have d1 : decide ((0 : Int) < ((c :: d :: r).length : Int)) = true := decide_eq_true (by simp <;> omega)
          have d2 : decide ((0 : Int) > 0) = false := rfl
          have hw : IntKind.wrap .i64 ((0 : Int) + 1) = 1 := by decide
          simp only [d1, d2, cond_true, hid, el, hlc, Bool.not_true, cond_false, hw]
          exact hk
        rcases snoc_cases (c :: d :: r) with hn | ⟨m, z, hm⟩
        · exact absurd hn (by simp)
        · have hz : ∀ {R : Type} (K : UInt8 → Option R), idx (c :: d :: r) (IntKind.wrap .i64 (((c :: d :: r).length : Int) - 1)) K = K z := fun K => by
            rw [wrap_id (by omega) (by omega), hm]
            rw [show (((m ++ [z]).length : Int) - 1) = (m.length : Int) by simp]
            exact idx_mid m [] z K
          have hlast : lastB (c :: d :: r) = lowB z := by rw [hm, lastB_snoc]
          have h3 : decide (((c :: d :: r).length : Int) < 3) = false := decide_eq_false (by omega)
          have h63 : decide (((c :: d :: r).length : Int) > 63) = false := decide_eq_false (by omega)
          have ha : fourS (c :: d :: r) = addrV (c :: d :: r) := (addr_four _).symm
          rw [e, hlast]
          cases hlc : lowB c with
          | false =>
            refine ret_goes hP hZ hb2_ok (by kernel_rfl) ⟨0, ?_⟩
            rw [r11]
            simp only [h3, h63, cond_false, hid, el, hlc, Bool.not_false, cond_true, Bool.false_and, Bool.and_false]
          | true =>
            cases hlz : lowB z with
            | false =>
              refine ret_goes hP hZ hb2_ok (by kernel_rfl) ⟨0, ?_⟩
              rw [r11]
              simp only [h3, h63, cond_false, hid, hz, el, hlc, hlz, Bool.not_true, Bool.not_false, cond_true, Bool.false_and, Bool.and_false]
            | true =>
              obtain ⟨k', hk'⟩ := hfirst hlc
              refine ret_goes hP hZ hb2_ok (by kernel_rfl) ⟨k', ?_⟩
              rw [r11]
              simp only [h3, h63, cond_false, hid, hz, el, hlc, hlz, Bool.not_true, h, cond_true, ha, Bool.true_and]
              cases addrV (c :: d :: r) with
              | true => rfl
              | false =>
                simp only [cond_false, Bool.not_false, Bool.true_and]
                exact hk'
      | [], h1, _, _, _ => exact absurd (by simp) h1
      | [c], h1, _, _, _ => exact absurd (by simp) h1

/-! ### keys; the law -/
theorem key_ret (s : List UInt8) (h : s30 s = true) : RetX Γ 12 [.s s] [] (.b (keyV s)) [] := by
  refine ret_goes hP hZ hb3_ok (by kernel_rfl) ⟨0, ?_⟩
  rw [r12, h]
  cases s with
  | nil => rfl
  | cons c r =>
    have e : ((c :: r) == ([] : List UInt8)) = false := rfl
    have e2 : decide (((c :: r).length : Int) ≤ 200) = decide ((c :: r).length ≤ 200) := decide_eq_decide.2 (by omega)
    have e3 : decide (1 ≤ (c :: r).length) = true := decide_eq_true (by simp)
    rw [e, e2]
    simp only [keyV, e3, Bool.true_and, Bool.not_false, cond_true]
    cases decide ((c :: r).length ≤ 200) <;> simp
theorem refKey_ret (s : List UInt8) (h : s30 s = true) : RetX Γ 13 [.s s] [] (.b (keyV s)) [] := by
  refine ret_goes hP hZ hb3_ok (by kernel_rfl) ⟨0, ?_⟩
  have e2 : decide ((s.length : Int) ≤ 200) = decide (s.length ≤ 200) := decide_eq_decide.2 (by omega)
  have e3 : decide ((s.length : Int) ≥ 1) = decide (1 ≤ s.length) := decide_eq_decide.2 (by omega)
  rw [r13, h, e2, e3]
  simp only [keyV, cond_true]
  cases decide (s.length ≤ 200) <;> cases decide (1 ≤ s.length) <;> simp
theorem hb4_ok (mx : Int) : CallsOK (Γm mx) Hb4 := specs_ok (.cons (sp0_ok fun _ => awake_ret.more) (.cons (sp1_ok fun s h => bucket_ret mx s h) (.cons (sp1_ok fun s h => (refBucket_ret s h).more) (.cons (sp1_ok fun s h => (key_ret s h).more) (.cons (sp1_ok fun s h => (refKey_ret s h).more) .nil)))))
theorem law3 (mx : Int) (s : List UInt8) (hs : s.length ≤ 1048576) : Ret (Γm mx) 3 [.s s] (.b true) := by
  refine (ret_goes (Γ := Γm mx) hP hZ (hb4_ok mx) (by kernel_rfl) ⟨0, ?_⟩).ret (by kernel_rfl)
  have h : s30 s = true := by simpa [s30] using (by omega)
  rw [r3]
  simp only [h, cond_true, beq_self_eq_true]
end Go.Proofs.YtdelibcanngipaaDoor.V
