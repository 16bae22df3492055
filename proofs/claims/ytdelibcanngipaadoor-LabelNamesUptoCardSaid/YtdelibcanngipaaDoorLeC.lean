/- Names: what the machine over values comes to at label.address, ref.four, label.Clean, ref.Clean. -/
import Derived.Test.YtdelibcanngipaaDoorLeB
import Derived.Test.YtdelibcanngipaaDoorLeP
namespace Go.Proofs.YtdelibcanngipaaDoor.V
open Go
set_option maxRecDepth 100000
set_option linter.unusedVariables false
set_option linter.unusedSimpArgs false

theorem spSp_ok (mx : Int) : SpecOK (Γm mx) ⟨36, dat spSp⟩ := dat_ok fun args r hr => by
  unfold spSp at hr
  split at hr
  · simp only [Option.some.injEq, Prod.mk.injEq] at hr
    obtain ⟨h1, rfl⟩ := hr
    exact split_ret mx _ h1
  · exact absurd hr (by simp)
theorem hn1_ok (mx : Int) : CallsOK (Γm mx) Hn1 := specs_ok (.cons (spSp_ok mx) (.cons (sp2_ok fun p u h => (trim_ret p u h).more) .nil))
theorem hn2_ok : CallsOK Γ Hn2 := specs_ok (.cons (sp1_ok fun s h => valid_ret s h) .nil)

/-! ### label.address -/
theorem trimC_ok {p : List UInt8} (h : p.length ≤ 3) : trimC p [48, 49, 50, 51, 52, 53, 54, 55, 56, 57] = true := by
  have h1 : s32 p = true := by simpa [s32] using (by omega)
  unfold trimC
  rw [h1]
  decide
theorem addr_goes (mx : Int) (L : List (List UInt8)) (hL : L.length ≤ 4) : ∀ (rest pre : List (List UInt8)) (i : Int), L = pre ++ rest → i = (pre.length : Int) →
    Goes (Γm mx) Hn1 23 5 ⟨[(11, .sl 9 .ex (L.map D.str)), (12, .i .i64 (L.length : Int)), (13, .i .i64 i)], []⟩ (.b (rest.all (okP 0)), [])
  | [], pre, i, he, hi => by
    subst hi
    refine Goes.step ⟨0, ?_⟩
    rw [r23_5a]
    have d1 : decide ((pre.length : Int) < (L.length : Int)) = false := decide_eq_false (by rw [he]; simp)
    rw [d1]; rfl
  | p :: r, pre, i, he, hi => by
    subst hi
    have hpl : pre.length + (r.length + 1) = L.length := by rw [he]; simp
    obtain ⟨k, hk⟩ := addr_goes mx L hL r (pre ++ [p]) ((pre.length : Int) + 1) (by rw [he]; simp) (by simp)
    refine Goes.step ⟨k, ?_⟩
    rw [r23_5a]
    have d1 : decide ((pre.length : Int) < (L.length : Int)) = true := decide_eq_true (by omega)
    have hw : IntKind.wrap .i64 ((pre.length : Int) + 1) = (pre.length : Int) + 1 := wrap_id (by omega) (by omega)
    have hid : ∀ {R : Type} (K : D → Option R), idx (L.map D.str) (pre.length : Int) K = K (.str p) := fun K => by
      have h := idx_mid (pre.map D.str) (r.map D.str) (D.str p) K; rw [List.length_map] at h; rw [he, List.map_append, List.map_cons]; exact h
    simp only [d1, cond_true, hid, dStr, hw, List.all_cons]
    by_cases h0 : p = []
    · subst h0; rfl
    · have e0 : (p == ([] : List UInt8)) = false := by simpa using h0
      have hp : 0 < p.length := List.length_pos_iff.2 h0
      by_cases h3 : p.length ≤ 3
      · have d3 : decide ((p.length : Int) > 3) = false := decide_eq_false (by omega)
        simp only [e0, d3, cond_false, trimC_ok h3, cond_true, trim_fig]
        cases hf : p.all figB with
        | true =>
          have : okP 0 p = true := by simp only [okP, hf, Bool.and_true, Bool.and_eq_true, decide_eq_true_eq]; omega
          simp only [Bool.not_true, cond_false, this, Bool.true_and]
          exact hk
        | false =>
          have : okP 0 p = false := by simp only [okP, hf, Bool.and_false]
          simp only [Bool.not_false, cond_true, this, Bool.false_and]
      · have d3 : decide ((p.length : Int) > 3) = true := decide_eq_true (by omega)
        have : okP 0 p = false := by
          have : decide (0 + p.length ≤ 3) = false := decide_eq_false (by omega)
          simp only [okP, this, Bool.and_false, Bool.false_and]
        simp only [e0, d3, cond_false, cond_true, this, Bool.false_and]
theorem addr_ret (mx : Int) (s : List UInt8) (h : s32 s = true) : RetX (Γm mx) 23 [.s s] [] (.b (addrV s)) [] := by
  have hd : splitD s = (dotSplit s).map D.str := by unfold splitD; rw [split_dot]
  by_cases h4 : (dotSplit s).length = 4
  · obtain ⟨k, hk⟩ := addr_goes mx (dotSplit s) (by omega) (dotSplit s) [] 0 rfl rfl
    refine ret_goes (Γ := Γm mx) hP hZ (hn1_ok mx) (by kernel_rfl) ⟨k, ?_⟩
    have e : (((dotSplit s).length : Int) != 4) = false := by rw [h4]; rfl
    rw [r23, h, hd, List.length_map, e]
    simp only [cond_true, cond_false]
    rw [hk]
    simp [addrV, h4]
  · refine ret_goes (Γ := Γm mx) hP hZ (hn1_ok mx) (by kernel_rfl) ⟨0, ?_⟩
    have e : (((dotSplit s).length : Int) != 4) = true := by simp <;> omega
    rw [r23, h, hd, List.length_map, e]
    simp [addrV, h4]

/-! ### ref.four -/
theorem four_goes (call : Handle) (s : List UInt8) (hs : s.length ≤ 1099511627776) : ∀ (rest pre : List UInt8) (i : Int) (d g : Nat), s = pre ++ rest → i = (pre.length : Int) → d ≤ pre.length → g ≤ 3 →
    Goes Γ call 26 3 ⟨[(0, .s s), (3, .i .i64 (d : Int)), (4, .i .i64 (g : Int)), (5, .i .i64 i)], []⟩ (.b (fourV d g rest), [])
  | [], pre, i, d, g, he, hi, hd, hg => by
    subst hi
    refine Goes.step ⟨0, ?_⟩
    rw [r26_3a]
    have d1 : decide ((pre.length : Int) < (s.length : Int)) = false := decide_eq_false (by rw [he]; simp)
    rw [d1]
    simp only [cond_false, fourV]
    by_cases h3 : d = 3
    · subst h3
      have e : (((3 : Nat) : Int) == 3) = true := rfl
      rw [e]
      have e2 : decide ((g : Int) > 0) = decide (0 < g) := decide_eq_decide.2 (by omega)
      simp only [cond_true, e2, decide_true, Bool.true_and]
    · have e : ((d : Int) == 3) = false := by simp <;> omega
      rw [e]
      simp [h3]
  | c :: r, pre, i, d, g, he, hi, hd, hg => by
    subst hi
    have hpl : pre.length + (r.length + 1) = s.length := by rw [he]; simp
    have d1 : decide ((pre.length : Int) < (s.length : Int)) = true := decide_eq_true (by omega)
    have hw : IntKind.wrap .i64 ((pre.length : Int) + 1) = (pre.length : Int) + 1 := wrap_id (by omega) (by omega)
    have hw1 : IntKind.wrap .i64 ((d : Int) + 1) = ((d + 1 : Nat) : Int) := by rw [wrap_id (by omega) (by omega)]; omega
    have hw2 : IntKind.wrap .i64 ((g : Int) + 1) = ((g + 1 : Nat) : Int) := by rw [wrap_id (by omega) (by omega)]; omega
    have hid : ∀ {R : Type} (K : UInt8 → Option R), idx s (pre.length : Int) K = K c := fun K => by rw [he]; exact idx_mid _ _ _ K
    by_cases hc : c = 46
    · subst hc
      have e : (((46 : UInt8).toNat : Int) == 46) = true := rfl
      by_cases h0 : g = 0
      · subst h0
        refine Goes.step ⟨0, ?_⟩
        rw [r26_3a]
        have e0 : (((0 : Nat) : Int) == 0) = true := rfl
        simp only [d1, cond_true, hid, e, e0, fourV, if_true]
      · obtain ⟨k, hk⟩ := four_goes call s hs r (pre ++ [46]) ((pre.length : Int) + 1) (d + 1) 0 (by rw [he]; simp) (by simp) (by simp <;> omega) (by omega)
        refine Goes.step ⟨k, ?_⟩
        rw [r26_3a]
        have e0 : ((g : Int) == 0) = false := by simp <;> omega
        simp only [d1, cond_true, hid, e, e0, cond_false, hw, hw1, fourV, if_true, if_neg h0]
        exact hk
    · have e : ((c.toNat : Int) == 46) = false := by
        have : c.toNat ≠ 46 := fun h => hc (UInt8.toNat_inj.1 (by rw [h]; rfl))
        simp <;> omega
      by_cases hf : figB c = true ∧ g + 1 ≤ 3
      · obtain ⟨k, hk⟩ := four_goes call s hs r (pre ++ [c]) ((pre.length : Int) + 1) d (g + 1) (by rw [he]; simp) (by simp) (by simp <;> omega) hf.2
        refine Goes.step ⟨k, ?_⟩
        rw [r26_3a]
        have hff := hf.1
        simp only [figB, Bool.and_eq_true, decide_eq_true_eq] at hff
        have e1 : decide ((c.toNat : Int) < 48) = false := decide_eq_false (by omega)
        have e2 : decide ((c.toNat : Int) > 57) = false := decide_eq_false (by omega)
        have e3 : decide (((g + 1 : Nat) : Int) > 3) = false := decide_eq_false (by omega)
        simp only [d1, cond_true, hid, e, e1, e2, e3, cond_false, hw, hw2, fourV, if_neg hc, if_pos hf]
        exact hk
      · refine Goes.step ⟨0, ?_⟩
        rw [r26_3a]
        simp only [d1, cond_true, hid, e, cond_false, hw2, fourV, if_neg hc, if_neg hf]
        by_cases e1 : (c.toNat : Int) < 48
        · rw [decide_eq_true e1]; rfl
        · rw [decide_eq_false e1]
          by_cases e2 : (c.toNat : Int) > 57
          · rw [decide_eq_true e2]; rfl
          · rw [decide_eq_false e2]
            have e3 : decide (((g + 1 : Nat) : Int) > 3) = true := decide_eq_true (by
              by_cases h3 : g + 1 ≤ 3
              · exact absurd ⟨by simp only [figB, Bool.and_eq_true, decide_eq_true_eq]; omega, h3⟩ hf
              · omega)
            rw [e3]; rfl
theorem four_ret {call : Handle} (hc : CallsOK Γ call) (s : List UInt8) (hs : s.length ≤ 1099511627776) : RetX Γ 26 [.s s] [] (.b (fourV 0 0 s)) [] := by
  obtain ⟨k, hk⟩ := four_goes call s hs s [] 0 0 0 rfl rfl (Nat.le_refl _) (by omega)
  refine ret_goes hP hZ hc (by kernel_rfl) ⟨k, ?_⟩
  rw [r26]; exact hk

/-! ### label.Clean -/
def cleanV (s : List UInt8) : Bool := s.all cleanB && Lib.validD s
theorem clean_goes (s : List UInt8) (hs : s.length ≤ 1073741824) : ∀ (rest pre : List UInt8) (i : Int), s = pre ++ rest → i = (pre.length : Int) →
    Goes Γ Hn2 27 2 ⟨[(0, .s s), (6, .sl 5 .any (bytesD s)), (7, .i .i64 (((bytesD s).length : Int))), (8, .i .i64 i)], []⟩ (.b (rest.all cleanB && Lib.validD s), [])
  | [], pre, i, he, hi => by
    subst hi
    refine Goes.step ⟨0, ?_⟩
    rw [r27_2a]
    have d1 : decide ((pre.length : Int) < ((bytesD s).length : Int)) = false := decide_eq_false (by rw [bytesD_len, he]; simp)
    have h32 : s32 s = true := by simpa [s32] using (by omega)
    rw [d1, h32]
    rfl
  | c :: r, pre, i, he, hi => by
    subst hi
    have hpl : pre.length + (r.length + 1) = s.length := by rw [he]; simp
    obtain ⟨k, hk⟩ := clean_goes s hs r (pre ++ [c]) ((pre.length : Int) + 1) (by rw [he]; simp) (by simp)
    refine Goes.step ⟨k, ?_⟩
    rw [r27_2a]
    have d1 : decide ((pre.length : Int) < ((bytesD s).length : Int)) = true := decide_eq_true (by rw [bytesD_len]; omega)
    have hw : IntKind.wrap .i64 ((pre.length : Int) + 1) = (pre.length : Int) + 1 := wrap_id (by omega) (by omega)
    have hid : ∀ {R : Type} (K : D → Option R), idx (bytesD s) (pre.length : Int) K = K (.int .u8 c.toNat) := fun K => by rw [he]; exact idx_bytes _ _ _ K
    have hdi : ∀ {R : Type} (n : Int) (K : Int → Option R), dInt .u8 (.int .u8 n) K = K n := fun n K => by rfl
    simp only [d1, cond_true, hid, hdi, hw, List.all_cons]
    by_cases h1 : (c.toNat : Int) < 32
    · have : cleanB c = false := by simp [cleanB] <;> omega
      rw [decide_eq_true h1, this]; rfl
    · rw [decide_eq_false h1]
      by_cases h2 : c.toNat = 127
      · have : cleanB c = false := by simp [cleanB, h2]
        have e : ((c.toNat : Int) == 127) = true := by rw [h2]; rfl
        rw [e, this]; rfl
      · have : cleanB c = true := by simp [cleanB, h2] <;> omega
        have e : ((c.toNat : Int) == 127) = false := by simp <;> omega
        rw [e, this]
        exact hk
theorem clean_ret (s : List UInt8) (hs : s.length ≤ 1073741824) : RetX Γ 27 [.s s] [] (.b (cleanV s)) [] := by
  obtain ⟨k, hk⟩ := clean_goes s hs s [] 0 rfl rfl
  refine ret_goes hP hZ hn2_ok (by kernel_rfl) ⟨k, ?_⟩
  rw [r27]; exact hk

/-! ### ref.Clean -/
def innB (least : Nat) (B : Bool) : Option Nat → Bool
  | none => false
  | some y => if fineX least y = true then B else false
theorem inn_goes (call : Handle) (s pre : List UInt8) (n least : Nat) (B : Bool) (hs : s.length ≤ 1099511627776) (hn : n ≤ 4) (hl : least ≤ 65536) :
    ∀ (m x : Nat) (q r : List UInt8), s = pre ++ (q ++ r) → q.length + m = n → (x + 2) * 64 ^ m ≤ 1099511627776 →
    (∀ y, inn m x (r) = some y → fineX least y = true → Goes Γ call 28 2 ⟨[(0, .s s), (3, .i .i64 (IntKind.wrap .i64 ((pre.length : Int) + (n : Int))))], []⟩ (.b B, [])) →
    Goes Γ call 28 16 ⟨[(0, .s s), (3, .i .i64 (pre.length : Int)), (5, .i .i64 (n : Int)), (6, .i .i64 (x : Int)), (7, .i .i64 (least : Int)), (8, .i .i64 (q.length : Int))], []⟩ (.b (innB least B (inn m x r)), [])
  | 0, x, q, r, he, hq, hx, hB => by
    have d0 : decide ((q.length : Int) < (n : Int)) = false := decide_eq_false (by omega)
    simp only [inn, innB]
    by_cases h1 : x < least
    · refine Goes.step ⟨0, ?_⟩
      rw [r28_16a, d0]
      have : fineX least x = false := by simp [fineX] <;> omega
      rw [decide_eq_true (show (x : Int) < (least : Int) by omega), this]; rfl
    · by_cases h2 : x > 1114111
      · refine Goes.step ⟨0, ?_⟩
        rw [r28_16a, d0]
        have : fineX least x = false := by simp [fineX] <;> omega
        rw [decide_eq_false (show ¬ (x : Int) < (least : Int) by omega), decide_eq_true (show (x : Int) > 1114111 by omega), this]; rfl
      · by_cases h3 : x ≥ 55296
        · by_cases h4 : x ≤ 57343
          · refine Goes.step ⟨0, ?_⟩
            rw [r28_16a, d0]
            have : fineX least x = false := by simp [fineX] <;> omega
            rw [decide_eq_false (show ¬ (x : Int) < (least : Int) by omega), decide_eq_false (show ¬ (x : Int) > 1114111 by omega), decide_eq_true (show (x : Int) ≥ 55296 by omega), decide_eq_true (show (x : Int) ≤ 57343 by omega), this]; rfl
          · have hf : fineX least x = true := by simp [fineX] <;> omega
            obtain ⟨k, hk⟩ := hB x rfl hf
            refine Goes.step ⟨k, ?_⟩
            rw [r28_16a, d0]
            rw [decide_eq_false (show ¬ (x : Int) < (least : Int) by omega), decide_eq_false (show ¬ (x : Int) > 1114111 by omega), decide_eq_true (show (x : Int) ≥ 55296 by omega), decide_eq_false (show ¬ (x : Int) ≤ 57343 by omega), if_pos hf]
            exact hk
        · have hf : fineX least x = true := by simp [fineX] <;> omega
          obtain ⟨k, hk⟩ := hB x rfl hf
          refine Goes.step ⟨k, ?_⟩
          rw [r28_16a, d0]
          rw [decide_eq_false (show ¬ (x : Int) < (least : Int) by omega), decide_eq_false (show ¬ (x : Int) > 1114111 by omega), decide_eq_false (show ¬ (x : Int) ≥ 55296 by omega), if_pos hf]
          exact hk
  | m + 1, x, q, [], he, hq, hx, hB => by
    have hsl : s.length = pre.length + q.length := by rw [he]; simp
    refine Goes.step ⟨0, ?_⟩
    rw [r28_16a, wrap_id (n := (pre.length : Int) + (q.length : Int)) (by omega) (by omega)]
    rw [decide_eq_true (show (q.length : Int) < (n : Int) by omega), decide_eq_true (show (pre.length : Int) + (q.length : Int) ≥ (s.length : Int) by omega)]
    rfl
  | m + 1, x, q, b :: r, he, hq, hx, hB => by
    have hsl : s.length = pre.length + q.length + (r.length + 1) := by rw [he]; simp <;> omega
    have hb := b.toNat_lt
    have hpow : (x + 2) * 64 ^ (m + 1) = (x + 2) * 64 * 64 ^ m := by rw [Nat.pow_succ, Nat.mul_comm (64 ^ m) 64, Nat.mul_assoc]
    have hp1 : 1 ≤ 64 ^ m := Nat.pow_pos (by decide)
    have hx1 : (x + 2) * 64 ≤ 1099511627776 := Nat.le_trans (Nat.le_mul_of_pos_right _ hp1) (by rw [← hpow]; exact hx)
    have hwi : IntKind.wrap .i64 ((pre.length : Int) + (q.length : Int)) = ((pre ++ q).length : Int) := by rw [wrap_id (by omega) (by omega)]; simp
    have hid : ∀ {R : Type} (K : UInt8 → Option R), idx s ((pre ++ q).length : Int) K = K b := fun K => by rw [he, ← List.append_assoc]; exact idx_mid _ _ _ K
    have d0 : decide ((q.length : Int) < (n : Int)) = true := decide_eq_true (by omega)
    have d1 : decide (((pre ++ q).length : Int) ≥ (s.length : Int)) = false := decide_eq_false (by simp <;> omega)
    by_cases hk1 : 128 ≤ b.toNat ∧ b.toNat < 192
    · have e1 : decide ((b.toNat : Int) < 128) = false := decide_eq_false (by omega)
      have e2 : decide ((b.toNat : Int) ≥ 192) = false := decide_eq_false (by omega)
      obtain ⟨k, hk⟩ := inn_goes call s pre n least B hs hn hl m (x * 64 + b.toNat - 128) (q ++ [b]) r (by rw [he]; simp) (by simp <;> omega)
        (Nat.le_trans (Nat.mul_le_mul_right _ (show x * 64 + b.toNat - 128 + 2 ≤ (x + 2) * 64 by omega)) (by rw [← hpow]; exact hx))
        (fun y hy hf => hB y (by rw [inn, if_pos hk1]; exact hy) hf)
      refine Goes.step ⟨k, ?_⟩
      have hw1 : IntKind.wrap .i64 ((x : Int) * 64) = (x : Int) * 64 := wrap_id (by omega) (by omega)
      have hw2 : IntKind.wrap .i64 ((b.toNat : Int)) = (b.toNat : Int) := wrap_id (by omega) (by omega)
      have hw3 : IntKind.wrap .i64 ((x : Int) * 64 + (b.toNat : Int)) = (x : Int) * 64 + (b.toNat : Int) := wrap_id (by omega) (by omega)
      have hw4 : IntKind.wrap .i64 ((x : Int) * 64 + (b.toNat : Int) - 128) = ((x * 64 + b.toNat - 128 : Nat) : Int) := by rw [wrap_id (by omega) (by omega)]; omega
      have hw5 : IntKind.wrap .i64 ((q.length : Int) + 1) = ((q ++ [b]).length : Int) := by rw [wrap_id (by omega) (by omega)]; simp
      rw [r28_16a]
      simp only [d0, cond_true, hwi, d1, cond_false, hid, e1, e2, hw1, hw2, hw3, hw4, hw5]
      rw [hk, inn, if_pos hk1]
    · refine Goes.step ⟨0, ?_⟩
      rw [r28_16a]
      simp only [d0, cond_true, hwi, d1, cond_false, hid, inn, if_neg hk1, innB]
      by_cases e1 : (b.toNat : Int) < 128
      · rw [decide_eq_true e1]; rfl
      · rw [decide_eq_false e1, decide_eq_true (show (b.toNat : Int) ≥ 192 by omega)]; rfl
theorem refClean_goes (call : Handle) (s : List UInt8) (hs : s.length ≤ 1073741824) : ∀ (f : Nat) (rest pre : List UInt8) (i : Int), rest.length ≤ f → s = pre ++ rest → i = (pre.length : Int) →
    Goes Γ call 28 2 ⟨[(0, .s s), (3, .i .i64 i)], []⟩ (.b (cleanGo f rest), [])
  | f, [], pre, i, hf, he, hi => by
    subst hi
    refine Goes.step ⟨0, ?_⟩
    rw [r28_2a]
    have d1 : decide ((pre.length : Int) < (s.length : Int)) = false := decide_eq_false (by rw [he]; simp)
    have : cleanGo f [] = true := by cases f <;> rfl
    rw [d1, this]; rfl
  | 0, c :: r, pre, i, hf, he, hi => absurd hf (by simp)
  | f + 1, c :: r, pre, i, hf, he, hi => by
    subst hi
    have hsl : s.length = pre.length + (r.length + 1) := by rw [he]; simp
    have hcl := c.toNat_lt
    have d1 : decide ((pre.length : Int) < (s.length : Int)) = true := decide_eq_true (by omega)
    have hid : ∀ {R : Type} (K : UInt8 → Option R), idx s (pre.length : Int) K = K c := fun K => by rw [he]; exact idx_mid _ _ _ K
    have hwc : IntKind.wrap .i64 ((c.toNat : Int)) = (c.toNat : Int) := wrap_id (by omega) (by omega)
    have go : ∀ (m x least : Nat), m ≤ 3 → x ≤ 256 → least ≤ 65536 → lead c = some (m, x, least) → cleanB c = true →
        Goes Γ call 28 16 ⟨[(0, .s s), (3, .i .i64 (pre.length : Int)), (5, .i .i64 ((m + 1 : Nat) : Int)), (6, .i .i64 (x : Int)), (7, .i .i64 (least : Int)), (8, .i .i64 1)], []⟩ (.b (cleanGo (f + 1) (c :: r)), []) := fun m x least hm hx hl hld hcb => by
      have hB : innB least (cleanGo f (r.drop m)) (inn m x r) = cleanGo (f + 1) (c :: r) := by
        simp only [cleanGo, hld, hcb, innB]
        cases inn m x r <;> simp
      rw [← hB]
      refine inn_goes call s pre (m + 1) least _ (by omega) (by omega) hl m x [c] r (by rw [he]; simp) (by simp <;> omega) ?_ fun y hy hfine => ?_
      · refine Nat.le_trans (Nat.mul_le_mul (show x + 2 ≤ 258 by omega) (Nat.pow_le_pow_right (by omega) hm)) (by decide)
      · have hlen : ∀ (m x : Nat) (r : List UInt8) (y : Nat), inn m x r = some y → m ≤ r.length := fun m => by
          induction m with
          | zero => intro x r y h; omega
          | succ m ih =>
            intro x r y h
            cases r with
            | nil => simp [inn] at h
            | cons b r =>
              rw [inn] at h
              split at h
              · have := ih _ _ _ h; simp <;> omega
              · exact absurd h (by simp)
        have hml := hlen m x r y hy
        have hw : IntKind.wrap .i64 ((pre.length : Int) + ((m + 1 : Nat) : Int)) = ((pre ++ c :: r.take m).length : Int) := by
          rw [wrap_id (by omega) (by omega)]; simp only [List.length_append, List.length_cons, List.length_take]; omega
        rw [hw]
        exact refClean_goes call s hs f (r.drop m) (pre ++ c :: r.take m) _ (by simp at hf ⊢; omega) (by rw [he]; simp) rfl
    by_cases h1 : c.toNat < 128
    · have hld : lead c = some (0, c.toNat, 0) := by simp [lead, h1]
      by_cases hcb : cleanB c = true
      · obtain ⟨k, hk⟩ := go 0 c.toNat 0 (by omega) (by omega) (by omega) hld hcb
        refine Goes.step ⟨k, ?_⟩
        simp only [cleanB, Bool.and_eq_true, decide_eq_true_eq] at hcb
        have e : ((c.toNat : Int) == 127) = false := by simp <;> omega
        rw [r28_2a]
        simp only [d1, cond_true, hid, hwc, decide_eq_true (show (c.toNat : Int) < 128 by omega), decide_eq_false (show ¬ (c.toNat : Int) < 32 by omega), e, cond_false]
        exact hk
      · have hcb' : cleanB c = false := Bool.eq_false_iff.2 hcb
        refine Goes.step ⟨0, ?_⟩
        rw [r28_2a]
        simp only [d1, cond_true, hid, hwc, decide_eq_true (show (c.toNat : Int) < 128 by omega), cleanGo, hld, hcb', if_true]
        by_cases e1 : (c.toNat : Int) < 32
        · rw [decide_eq_true e1]; rfl
        · rw [decide_eq_false e1]
          have : c.toNat = 127 := by
            simp only [cleanB, Bool.and_eq_true, decide_eq_true_eq] at hcb
            omega
          have e : ((c.toNat : Int) == 127) = true := by rw [this]; rfl
          rw [e]; rfl
    · have hcb : cleanB c = true := by simp [cleanB] <;> omega
      have e32 : decide ((c.toNat : Int) < 32) = false := decide_eq_false (by omega)
      have e127 : ((c.toNat : Int) == 127) = false := by simp <;> omega
      have e128 : decide ((c.toNat : Int) < 128) = false := decide_eq_false (by omega)
      by_cases h2 : 192 ≤ c.toNat ∧ c.toNat < 224
      · have hld : lead c = some (1, c.toNat - 192, 128) := by simp only [lead, if_neg h1, if_pos h2]
        obtain ⟨k, hk⟩ := go 1 (c.toNat - 192) 128 (by omega) (by omega) (by omega) hld hcb
        refine Goes.step ⟨k, ?_⟩
        have hw : IntKind.wrap .i64 ((c.toNat : Int) - 192) = ((c.toNat - 192 : Nat) : Int) := by rw [wrap_id (by omega) (by omega)]; omega
        rw [r28_2a]
        simp only [d1, cond_true, hid, hwc, e128, cond_false, decide_eq_true (show (c.toNat : Int) ≥ 192 by omega), decide_eq_true (show (c.toNat : Int) < 224 by omega), e32, e127, hw]
        exact hk
      · by_cases h3 : 224 ≤ c.toNat ∧ c.toNat < 240
        · have hld : lead c = some (2, c.toNat - 224, 2048) := by simp only [lead, if_neg h1, if_neg h2, if_pos h3]
          obtain ⟨k, hk⟩ := go 2 (c.toNat - 224) 2048 (by omega) (by omega) (by omega) hld hcb
          refine Goes.step ⟨k, ?_⟩
          have hw : IntKind.wrap .i64 ((c.toNat : Int) - 224) = ((c.toNat - 224 : Nat) : Int) := by rw [wrap_id (by omega) (by omega)]; omega
          rw [r28_2a]
          simp only [d1, cond_true, hid, hwc, e128, cond_false, decide_eq_true (show (c.toNat : Int) ≥ 192 by omega), decide_eq_false (show ¬ (c.toNat : Int) < 224 by omega), decide_eq_true (show (c.toNat : Int) ≥ 224 by omega), decide_eq_true (show (c.toNat : Int) < 240 by omega), e32, e127, hw]
          exact hk
        · by_cases h4 : 240 ≤ c.toNat ∧ c.toNat < 248
          · have hld : lead c = some (3, c.toNat - 240, 65536) := by simp only [lead, if_neg h1, if_neg h2, if_neg h3, if_pos h4]
            obtain ⟨k, hk⟩ := go 3 (c.toNat - 240) 65536 (by omega) (by omega) (by omega) hld hcb
            refine Goes.step ⟨k, ?_⟩
            have hw : IntKind.wrap .i64 ((c.toNat : Int) - 240) = ((c.toNat - 240 : Nat) : Int) := by rw [wrap_id (by omega) (by omega)]; omega
            rw [r28_2a]
            simp only [d1, cond_true, hid, hwc, e128, cond_false, decide_eq_true (show (c.toNat : Int) ≥ 192 by omega), decide_eq_false (show ¬ (c.toNat : Int) < 224 by omega), decide_eq_true (show (c.toNat : Int) ≥ 224 by omega), decide_eq_false (show ¬ (c.toNat : Int) < 240 by omega), decide_eq_true (show (c.toNat : Int) ≥ 240 by omega), decide_eq_true (show (c.toNat : Int) < 248 by omega), e32, e127, hw]
            exact hk
          · have hld : lead c = none := by simp only [lead, if_neg h1, if_neg h2, if_neg h3, if_neg h4]
            refine Goes.step ⟨0, ?_⟩
            rw [r28_2a]
            simp only [d1, cond_true, hid, hwc, e128, cond_false, cleanGo, hld]
            by_cases g1 : (c.toNat : Int) ≥ 192
            · rw [decide_eq_true g1, decide_eq_false (show ¬ (c.toNat : Int) < 224 by omega), decide_eq_true (show (c.toNat : Int) ≥ 224 by omega), decide_eq_false (show ¬ (c.toNat : Int) < 240 by omega), decide_eq_true (show (c.toNat : Int) ≥ 240 by omega), decide_eq_false (show ¬ (c.toNat : Int) < 248 by omega)]; rfl
            · rw [decide_eq_false g1, decide_eq_false (show ¬ (c.toNat : Int) ≥ 224 by omega), decide_eq_false (show ¬ (c.toNat : Int) ≥ 240 by omega)]; rfl
theorem refClean_ret {call : Handle} (hc : CallsOK Γ call) (s : List UInt8) (hs : s.length ≤ 1073741824) : RetX Γ 28 [.s s] [] (.b (cleanV s)) [] := by
  obtain ⟨k, hk⟩ := refClean_goes call s hs s.length s [] 0 (Nat.le_refl _) rfl rfl
  refine ret_goes hP hZ hc (by kernel_rfl) ⟨k, ?_⟩
  rw [r28]
  have e : cleanV s = cleanGo s.length s := (clean_valid s.length s (Nat.le_refl _)).symm
  rw [e]
  exact hk
end Go.Proofs.YtdelibcanngipaaDoor.V
