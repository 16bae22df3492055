/- Grants: contracts: sound patterns, sound grants, words. -/
import Derived.Test.YtjbemleloffafaaDoorGrC
namespace Go.Proofs.YtjbemleloffafaaDoor.V
open Go
set_option maxRecDepth 100000
set_option linter.unusedVariables false
set_option linter.unusedSimpArgs false
variable {mx : Int}
theorem h68_ok : CallsOK (Γ mx) H68 := specs_ok (.cons (sp1_ok c97) .nil)
theorem c68 (p : List UInt8) (_ : true = true) : RetX (Γ mx) 68 [.s p] [] (.b (pcB p)) [] := ret_goes (Γ := Γ mx) hP hZ h68_ok (by kernel_rfl) ⟨0, by rw [r68]⟩
theorem h42_ok : CallsOK (Γ mx) H42 := specs_ok (.cons (sp1_ok c72) .nil)
theorem c42 (p : List UInt8) (_ : true = true) : RetX (Γ mx) 42 [.s p] [] (.b (pcB p)) [] := ret_goes (Γ := Γ mx) hP hZ h42_ok (by kernel_rfl) ⟨0, by rw [r42]⟩
theorem isG_eq {g : D} (h : isG g = true) : ∃ b w t k, g = .agg [.bool b, .str w, .str t, .str k] := by
  unfold isG at h
  split at h
  · exact ⟨_, _, _, _, rfl⟩
  · exact absurd h (by simp)
theorem h67_ok : CallsOK (Γ mx) H67 := specs_ok (.cons (sp1_ok c68) .nil)
theorem c67 (g : D) (h : isG g = true) : RetX (Γ mx) 67 [.d 29 g] [] (.b (!gSound g)) [] := by
  obtain ⟨b, w, t, k, rfl⟩ := isG_eq h
  refine ret_goes (Γ := Γ mx) hP hZ h67_ok (by kernel_rfl) ⟨0, ?_⟩
  have e : gSound (.agg [.bool b, .str w, .str t, .str k]) = (pcB w && (pcB t && pcB k)) := rfl
  rw [r67, e]
  cases pcB w <;> cases pcB t <;> rfl
theorem h96_ok : CallsOK (Γ mx) H96 := specs_ok (.cons (spD1_ok c67) .nil)
theorem g96 (l : List D) (hl : l.length ≤ 1099511627776) : ∀ (rest pre : List D) (i : Int), rest.all isG = true → l = pre ++ rest → i = (pre.length : Int) →
    Goes (Γ mx) H96 96 2 ⟨[(0, .sl 29 .any l), (1, .fn 67 []), (7, .i .i64 (l.length : Int)), (8, .i .i64 i)], []⟩ (.i .i64 (badN rest i), [])
  | [], pre, i, hg, he, hi => by
    subst hi
    refine Goes.step ⟨0, ?_⟩
    rw [r96_2a, decide_eq_false (show ¬ (pre.length : Int) < (l.length : Int) by rw [he]; simp)]; rfl
  | g :: r, pre, i, hg, he, hi => by
    subst hi
    have hlen : l.length = pre.length + (r.length + 1) := by rw [he]; simp
    have hg' : isG g = true ∧ r.all isG = true := by simpa using hg
    obtain ⟨b, w, t, k, rfl⟩ := isG_eq hg'.1
    have hid : ∀ {R : Type} (K : D → Option R), idx l (pre.length : Int) K = K (.agg [.bool b, .str w, .str t, .str k]) := fun K => by rw [he]; exact idx_mid pre r _ K
    have hw : IntKind.wrap .i64 ((pre.length : Int) + 1) = (pre.length : Int) + 1 := wrapI (by omega) (by omega)
    cases hs : gSound (.agg [.bool b, .str w, .str t, .str k]) with
    | false =>
      refine Goes.step ⟨0, ?_⟩
      rw [r96_2a, decide_eq_true (show (pre.length : Int) < (l.length : Int) by omega), cond_true, hid, badN, hs]
      simp only [dAgg, lCons, dBool, dStr, lNil, hg'.1, cond_true, hs, Bool.not_false, cond_false]
    | true =>
      obtain ⟨n, hn⟩ := g96 l hl r (pre ++ [.agg [.bool b, .str w, .str t, .str k]]) ((pre.length : Int) + 1) hg'.2 (by rw [he]; simp) (by simp)
      refine Goes.step ⟨n, ?_⟩
      rw [r96_2a, decide_eq_true (show (pre.length : Int) < (l.length : Int) by omega), cond_true, hid, badN, hs]
      simp only [dAgg, lCons, dBool, dStr, lNil, hg'.1, cond_true, hs, Bool.not_true, cond_false, hw]
      exact hn
theorem badN_sound : ∀ (l : List D) (i : Int), 0 ≤ i → decide (badN l i ≥ 0) = !gsSound l
  | [], i, h => rfl
  | g :: r, i, h => by
    rw [badN]
    unfold gsSound
    rw [List.all_cons]
    cases gSound g with
    | true => rw [cond_true, Bool.true_and]; exact badN_sound r (i + 1) (by omega)
    | false => rw [cond_false, Bool.false_and]; exact decide_eq_true h
theorem allG_eq {l : List D} (h : allG l = true) : l.length ≤ 1099511627776 ∧ l.all isG = true := by
  simpa [allG] using h
theorem c96 (l : List D) (h : allG l = true) : RetX (Γ mx) 96 [.sl 29 .any l, .fn 67 []] [] (.i .i64 (badI l)) [] := by
  obtain ⟨h1, h2⟩ := allG_eq h
  obtain ⟨n, hn⟩ := g96 (mx := mx) l h1 l [] 0 h2 rfl rfl
  exact ret_goes (Γ := Γ mx) hP hZ h96_ok (by kernel_rfl) ⟨n, by rw [r96]; exact hn⟩
theorem h66_ok : CallsOK (Γ mx) H66 := specs_ok (.cons (spLF_ok c96) .nil)
theorem c66 (l : List D) (h : allG l = true) : RetX (Γ mx) 66 [.sl 29 .any l, .fn 67 []] [] (.b (!gsSound l)) [] :=
  ret_goes (Γ := Γ mx) hP hZ h66_ok (by kernel_rfl) ⟨0, by rw [r66, h, cond_true, show badI l = badN l 0 from rfl, badN_sound l 0 (by omega)]⟩
theorem h38_ok : CallsOK (Γ mx) H38 := specs_ok (.cons (spLF_ok c66) .nil)
theorem c38 (l : List D) (h : allG l = true) : RetX (Γ mx) 38 [.sl 29 .any l] [] (.b (grB l)) [] := by
  refine ret_goes (Γ := Γ mx) hP hZ h38_ok (by kernel_rfl) ⟨0, ?_⟩
  unfold grB
  rw [r38, h, show decide ((l.length : Int) ≤ 8) = decide (l.length ≤ 8) from decide_eq_decide.2 (by omega)]
  cases decide (l.length ≤ 8) <;> simp
theorem h17_ok : CallsOK (Γ mx) H17 := specs_ok (.cons (sp1_ok c42) .nil)
theorem g17 (l : List D) (hl : l.length ≤ 1099511627776) : ∀ (rest pre : List D) (i : Int), rest.all isG = true → l = pre ++ rest → i = (pre.length : Int) →
    Goes (Γ mx) H17 17 4 ⟨[(0, .sl 29 .any l), (3, .i .i64 i)], []⟩ (.b (gsSound rest), [])
  | [], pre, i, hg, he, hi => by
    subst hi
    refine Goes.step ⟨0, ?_⟩
    rw [r17_4a, decide_eq_false (show ¬ (pre.length : Int) < (l.length : Int) by rw [he]; simp)]; rfl
  | g :: r, pre, i, hg, he, hi => by
    subst hi
    have hlen : l.length = pre.length + (r.length + 1) := by rw [he]; simp
    have hg' : isG g = true ∧ r.all isG = true := by simpa using hg
    obtain ⟨b, w, t, k, rfl⟩ := isG_eq hg'.1
    have hid : ∀ {R : Type} (K : D → Option R), idx l (pre.length : Int) K = K (.agg [.bool b, .str w, .str t, .str k]) := fun K => by rw [he]; exact idx_mid pre r _ K
    have hw : IntKind.wrap .i64 ((pre.length : Int) + 1) = (pre.length : Int) + 1 := wrapI (by omega) (by omega)
    obtain ⟨n, hn⟩ := g17 l hl r (pre ++ [.agg [.bool b, .str w, .str t, .str k]]) ((pre.length : Int) + 1) hg'.2 (by rw [he]; simp) (by simp)
    refine Goes.step ⟨n, ?_⟩
    have e : gsSound (.agg [.bool b, .str w, .str t, .str k] :: r) = ((pcB w && (pcB t && pcB k)) && gsSound r) := rfl
    rw [r17_4a, decide_eq_true (show (pre.length : Int) < (l.length : Int) by omega), cond_true, e]
    simp only [hid, hw]
    show (bif !(pcB w) then _ else (bif !(pcB t) then _ else (bif !(pcB k) then _ else _))) = _
    cases pcB w with
    | false => simp
    | true =>
      cases pcB t with
      | false => simp
      | true =>
        cases pcB k with
        | false => simp
        | true => simp only [Bool.not_true, cond_false, Bool.and_self, Bool.true_and]; exact hn
theorem c17 (l : List D) (h : allG l = true) : RetX (Γ mx) 17 [.sl 29 .any l] [] (.b (grB l)) [] := by
  obtain ⟨h1, h2⟩ := allG_eq h
  unfold grB
  by_cases h8 : l.length ≤ 8
  · obtain ⟨n, hn⟩ := g17 (mx := mx) l h1 l [] 0 h2 rfl rfl
    refine ret_goes (Γ := Γ mx) hP hZ h17_ok (by kernel_rfl) ⟨n, ?_⟩
    rw [r17, decide_eq_false (show ¬ (l.length : Int) > 8 by omega), decide_eq_true h8, Bool.true_and]; exact hn
  · refine ret_goes (Γ := Γ mx) hP hZ h17_ok (by kernel_rfl) ⟨0, ?_⟩
    rw [r17, decide_eq_true (show (l.length : Int) > 8 by omega), decide_eq_false h8]; rfl
/-! ### words -/
theorem isS_eq {g : D} (h : isS g = true) : ∃ s, g = .str s := by
  unfold isS at h
  split at h
  · exact ⟨_, rfl⟩
  · exact absurd h (by simp)
theorem g71 (l : List D) (x : List UInt8) (hl : l.length ≤ 1099511627776) : ∀ (rest pre : List D) (i : Int), rest.all isS = true → l = pre ++ rest → i = (pre.length : Int) →
    Goes (Γ mx) (runS []) 71 2 ⟨[(0, .sl 9 .any l), (1, .s x), (7, .i .i64 (l.length : Int)), (8, .i .i64 i)], []⟩ (.i .i64 (idxN x rest i), [])
  | [], pre, i, hg, he, hi => by
    subst hi
    refine Goes.step ⟨0, ?_⟩
    rw [r71_2a, decide_eq_false (show ¬ (pre.length : Int) < (l.length : Int) by rw [he]; simp)]; rfl
  | g :: r, pre, i, hg, he, hi => by
    subst hi
    have hlen : l.length = pre.length + (r.length + 1) := by rw [he]; simp
    have hg' : isS g = true ∧ r.all isS = true := by simpa using hg
    obtain ⟨s, rfl⟩ := isS_eq hg'.1
    have hid : ∀ {R : Type} (K : D → Option R), idx l (pre.length : Int) K = K (.str s) := fun K => by rw [he]; exact idx_mid pre r _ K
    have hw : IntKind.wrap .i64 ((pre.length : Int) + 1) = (pre.length : Int) + 1 := wrapI (by omega) (by omega)
    obtain ⟨n, hn⟩ := g71 l x hl r (pre ++ [.str s]) ((pre.length : Int) + 1) hg'.2 (by rw [he]; simp) (by simp)
    refine Goes.step ⟨n, ?_⟩
    rw [r71_2a, decide_eq_true (show (pre.length : Int) < (l.length : Int) by omega), cond_true, hid, idxN, show eqS x (.str s) = (x == s) from rfl]
    simp only [dStr, hw]
    cases (x == s) with
    | true => rfl
    | false => exact hn
theorem idxN_has (x : List UInt8) : ∀ (l : List D) (i : Int), 0 ≤ i → decide (idxN x l i ≥ 0) = hasS l x
  | [], i, h => rfl
  | g :: r, i, h => by
    rw [idxN]
    unfold hasS
    rw [List.any_cons]
    cases eqS x g with
    | false => rw [cond_false, Bool.false_or]; exact idxN_has x r (i + 1) (by omega)
    | true => rw [cond_true, Bool.true_or]; exact decide_eq_true h
theorem c71 (l : List D) (x : List UInt8) (h : allS l = true) : RetX (Γ mx) 71 [.sl 9 .any l, .s x] [] (.i .i64 (idxS l x)) [] := by
  have h : l.length ≤ 1099511627776 ∧ l.all isS = true := by simpa [allS] using h
  obtain ⟨n, hn⟩ := g71 (mx := mx) l x h.1 l [] 0 h.2 rfl rfl
  exact ret_goes (Γ := Γ mx) hP hZ none_ok (by kernel_rfl) ⟨n, by rw [r71]; exact hn⟩
theorem h41_ok : CallsOK (Γ mx) H41 := specs_ok (.cons (spLS_ok c71) .nil)
theorem c41 (l : List D) (x : List UInt8) (h : allS l = true) : RetX (Γ mx) 41 [.sl 9 .any l, .s x] [] (.b (hasS l x)) [] :=
  ret_goes (Γ := Γ mx) hP hZ h41_ok (by kernel_rfl) ⟨0, by rw [r41, h, cond_true, show idxS l x = idxN x l 0 from rfl, idxN_has x l 0 (by omega)]⟩
theorem h15_ok : CallsOK (Γ mx) H15 := specs_ok (.cons (spLS_ok c41) .nil)
theorem c15 (x : List UInt8) (_ : true = true) : RetX (Γ mx) 15 [.s x] [] (.b (knownW x)) [] :=
  ret_goes (Γ := Γ mx) hP hZ h15_ok (by kernel_rfl) ⟨0, by rw [r15]; rfl⟩
theorem c16 (x : List UInt8) (_ : true = true) : RetX (Γ mx) 16 [.s x] [] (.b (knownW x)) [] := by
  refine ret_goes (Γ := Γ mx) hP hZ none_ok (by kernel_rfl) ⟨0, ?_⟩
  have e : knownW x = ((x == [103, 101, 116]) || ((x == [112, 117, 116]) || ((x == [100, 101, 108, 101, 116, 101]) || ((x == [101, 114, 97, 115, 101]) || ((x == [108, 111, 99, 107]) || ((x == [98, 121, 112, 97, 115, 115]) || ((x == [108, 105, 115, 116]) || ((x == [116, 97, 103]) || ((x == [97, 100, 109, 105, 110]) || false))))))))) := rfl
  rw [r16, e]
  cases (x == [103, 101, 116]) with
  | true => rfl
  | false =>
  cases (x == [112, 117, 116]) with
  | true => rfl
  | false =>
  cases (x == [100, 101, 108, 101, 116, 101]) with
  | true => rfl
  | false =>
  cases (x == [101, 114, 97, 115, 101]) with
  | true => rfl
  | false =>
  cases (x == [108, 111, 99, 107]) with
  | true => rfl
  | false =>
  cases (x == [98, 121, 112, 97, 115, 115]) with
  | true => rfl
  | false =>
  cases (x == [108, 105, 115, 116]) with
  | true => rfl
  | false =>
  cases (x == [116, 97, 103]) with
  | true => rfl
  | false => cases (x == [97, 100, 109, 105, 110]) <;> rfl
theorem isP_eq {g : D} (h : isP g = true) : ∃ k b, g = .agg [.int .i64 k, .int .u8 b] := by
  unfold isP at h
  split at h
  · exact ⟨_, _, rfl⟩
  · exact absurd h (by simp)
theorem c98 (p : D) (c : Int) (h : isP p = true) : RetX (Γ mx) 98 [.d 142 p, .i .u8 c] [] (.b (fitsD p c)) [] := by
  obtain ⟨k, b, rfl⟩ := isP_eq h
  refine ret_goes (Γ := Γ mx) hP hZ none_ok (by kernel_rfl) ⟨0, ?_⟩
  have e : fitsD (.agg [.int .i64 k, .int .u8 b]) c = (k == 1 || (k == 0 && b == c)) := rfl
  rw [r98, e]
  cases (k == 1) <;> cases (k == 0) <;> rfl
end Go.Proofs.YtjbemleloffafaaDoor.V
