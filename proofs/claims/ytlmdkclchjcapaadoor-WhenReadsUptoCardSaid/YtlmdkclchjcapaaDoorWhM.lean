/- Spans: contracts of part, digits, Span, take, ParseSpan and the document's Span. -/
import Derived.Test.YtlmdkclchjcapaaDoorWhL
namespace Go.Proofs.YtlmdkclchjcapaaDoor.V
open Go
set_option maxRecDepth 100000
set_option linter.unusedVariables false
set_option linter.unusedSimpArgs false
variable {mx : Int}
theorem mxs {a : Nat} (h : a ≤ 1000000000000) : decide (a ≤ maxStr) = true := decide_eq_true (Nat.le_trans h (by decide))
theorem nd_le {u : Nat} (h : u < 18446744073709551616) : Lib.nDigits u ≤ 20 := by
  by_cases h0 : u = 0
  · subst h0; rw [Lib.nDigits_small (by omega)]; omega
  · have := Lib.numDigits_eq u (by omega) h
    split at this <;> omega
theorem dd_len {u : Nat} (h : u < 18446744073709551616) : (Lib.decDigits u).length ≤ 20 := by rw [Lib.decDigits_length]; exact nd_le h
theorem part_len {u : Nat} (h : u < 18446744073709551616) (s : List UInt8) : (partL (u : Int) s).length ≤ 20 + s.length := by
  unfold partL
  have := dd_len h
  cases ((u : Int) == 0)
  · simp only [cond_false, Int.toNat_natCast, List.length_append]; omega
  · simp
theorem u64C_nat {u : Nat} (h : u < 18446744073709551616) : u64C (u : Int) = true := decide_eq_true (by omega)
theorem parB_nat {u : Nat} (h : u < 18446744073709551616) {s : List UInt8} (hs : s.length ≤ 16) : parB (u : Int) s = true := by
  unfold parB; rw [u64C_nat h, decide_eq_true hs]; rfl
theorem h56_ok : CallsOK (Γ true mx) H56 := specs_ok (.cons (spUI_ok c73) .nil)
theorem c56 (n b : Int) (h : fuB n b = true) : RetX (Γ true mx) 56 [.i .u64 n, .i .i64 b] [] (.s (Lib.decDigits n.toNat)) [] :=
  ret_goes (Γ := Γ true mx) hP hZ h56_ok (by kernel_rfl) ⟨0, by rw [r56, h]; rfl⟩
theorem h57_ok : CallsOK (Γ true mx) H57 := specs_ok (.cons (sp2_ok c74) .nil)
theorem hasPrefix_len {s p : List UInt8} (h : Lib.hasPrefix s p = true) : p.length ≤ s.length := by
  have : p <+: s := by simpa [Lib.hasPrefix, List.isPrefixOf_iff_prefix] using h
  exact this.length_le
theorem c57 (s p : List UInt8) (_ : true = true) : RetX (Γ true mx) 57 [.s s, .s p] [] (cpA s p) [] := by
  refine ret_goes (Γ := Γ true mx) hP hZ h57_ok (by kernel_rfl) ⟨0, ?_⟩
  rw [r57]
  unfold cpA cpS
  cases h : Lib.hasPrefix s p with
  | false => rfl
  | true =>
    have hl := hasPrefix_len h
    rw [decide_eq_true (show (0 : Int) ≤ (p.length : Int) by omega), decide_eq_true (show (p.length : Int) ≤ (s.length : Int) by omega)]
    simp only [Bool.not_true, cond_false, cond_true, Bool.and_true, Int.toNat_natCast]
    rw [List.take_of_length_le (by simp)]
theorem h43_ok : CallsOK (Γ true mx) H43 := specs_ok (.cons (sp2_ok c57) .nil)
theorem c43 (s p : List UInt8) (_ : true = true) : RetX (Γ true mx) 43 [.s s, .s p] [] (cpA s p) [] :=
  ret_goes (Γ := Γ true mx) hP hZ h43_ok (by kernel_rfl) ⟨0, by rw [r43]; rfl⟩
theorem h42_ok : CallsOK (Γ true mx) H42 := specs_ok (.cons (spUI_ok c56) .nil)
theorem c42 (n : Int) (s : List UInt8) (h : parB n s = true) : RetX (Γ true mx) 42 [.i .u64 n, .s s] [] (.s (partL n s)) [] := by
  refine ret_goes (Γ := Γ true mx) hP hZ h42_ok (by kernel_rfl) ⟨0, ?_⟩
  rw [r42]
  simp only [parB, Bool.and_eq_true, decide_eq_true_eq] at h
  have h1 := h.1
  simp only [u64C, decide_eq_true_eq] at h1
  have hl := dd_len (u := n.toNat) (by omega)
  unfold partL
  have e1 : fuB n 10 = true := by unfold fuB; rw [h.1]; rfl
  rw [e1, mxs (by omega)]
  cases (n == 0) <;> rfl
theorem g46 : ∀ (N : Nat) (s : List UInt8), N < 18446744073709551616 → s.length + Lib.nDigits N ≤ 100 →
    Goes (Γ true mx) (runS []) 46 2 ⟨[(0, .i .u64 (N : Int)), (3, .s s)], []⟩ (.s ((if N < 10 then [] else Lib.decDigits (N / 10)) ++ s), []) := by
  intro N
  induction N using Nat.strongRecOn with
  | ind N ih =>
    intro s hN hl
    by_cases h10 : N < 10
    · refine Goes.step ⟨0, ?_⟩
      rw [r46_2a, decide_eq_false (show ¬ (N : Int) ≥ 10 by omega), if_pos h10]; rfl
    · have hb := Lib.nDigits_big h10
      obtain ⟨n, h⟩ := ih (N / 10) (by omega) (UInt8.ofNat (48 + N / 10 % 10) :: s) (by omega) (by rw [List.length_cons]; omega)
      refine Goes.step ⟨n, ?_⟩
      have e1 : IntKind.wrap .u64 (Int.tdiv (N : Int) 10) = ((N / 10 : Nat) : Int) := by
        rw [show Int.tdiv (N : Int) 10 = ((N / 10 : Nat) : Int) from rfl]; exact wrapU (by omega) (by omega)
      have e2 : IntKind.wrap .u8 (IntKind.wrap .u64 (48 + Int.tmod ((N / 10 : Nat) : Int) 10)) = ((48 + N / 10 % 10 : Nat) : Int) := by
        rw [show Int.tmod ((N / 10 : Nat) : Int) 10 = ((N / 10 % 10 : Nat) : Int) from rfl, wrapU (by omega) (by omega), IntKind.wrap_u8]; omega
      rw [r46_2a, decide_eq_true (show (N : Int) ≥ 10 by omega), e1, e2]
      show (bif decide (1 + s.length ≤ maxStr) then _ else none) = _
      rw [mxs (by omega), cond_true]
      refine h.trans ?_
      rw [if_neg h10]
      congr 3
      by_cases h100 : N / 10 < 10
      · rw [if_pos h100, Lib.decDigits, dif_pos h100, show N / 10 % 10 = N / 10 by omega]; rfl
      · rw [if_neg h100]
        conv => rhs; rw [Lib.decDigits, dif_neg h100]
        simp
theorem c46 (n : Int) (h : u64C n = true) : RetX (Γ true mx) 46 [.i .u64 n] [] (.s (Lib.decDigits n.toNat)) [] := by
  simp only [u64C, decide_eq_true_eq] at h
  obtain ⟨N, rfl⟩ := nat_of h.1
  have hnd := nd_le (u := N) (by omega)
  obtain ⟨k, hk⟩ := g46 (mx := mx) N [UInt8.ofNat (48 + N % 10)] (by omega) (by simp only [List.length_cons, List.length_nil]; omega)
  refine ret_goes (Γ := Γ true mx) hP hZ (specs_ok .nil) (by kernel_rfl) ⟨k, ?_⟩
  have e2 : IntKind.wrap .u8 (IntKind.wrap .u64 (48 + Int.tmod (N : Int) 10)) = ((48 + N % 10 : Nat) : Int) := by
    rw [show Int.tmod (N : Int) 10 = ((N % 10 : Nat) : Int) from rfl, wrapU (by omega) (by omega), IntKind.wrap_u8]; omega
  rw [r46, e2]
  refine (show _ = _ from hk).trans ?_
  congr 3
  rw [Int.toNat_natCast]
  conv => rhs; rw [Lib.decDigits]
  by_cases h10 : N < 10
  · rw [if_pos h10, dif_pos h10, show N % 10 = N by omega]; rfl
  · rw [if_neg h10, dif_neg h10]
/-! ### Span -/
theorem h25_ok : CallsOK (Γ true mx) H25 := specs_ok (.cons (spUS_ok c42) .nil)
theorem tdivU {N k : Nat} (hN : N < 18446744073709551616) : IntKind.wrap .u64 (Int.tdiv (N : Int) (k : Int)) = ((N / k : Nat) : Int) := by
  rw [show Int.tdiv (N : Int) (k : Int) = ((N / k : Nat) : Int) from rfl]
  have := Nat.div_le_self N k
  generalize N / k = q at *
  exact wrapU (by omega) (by omega)
theorem g25 (s2 s3 : List UInt8) (R : Nat) (hR : R < 86400) (h2 : s2.length ≤ 10) (h3 : s3.length ≤ 50) :
    Goes (Γ true mx) H25 25 9 ⟨[(3, .i .u64 (R : Int)), (4, .s s2), (5, .s s3), (6, .s []), (22, .d 67 (D.agg [D.agg [D.str [72], D.int .u64 3600], D.agg [D.str [77], D.int .u64 60], D.agg [D.str [83], D.int .u64 1]])), (23, .i .i64 0)], []⟩ (.s (s2 ++ [80] ++ s3 ++ tailN R), []) := by
  have p1 := part_len (u := R / 3600) (by omega) [72]
  have p2 := part_len (u := R % 3600 / 60) (by omega) [77]
  have p3 := part_len (u := R % 60) (by omega) [83]
  simp only [List.length_cons, List.length_nil] at p1 p2 p3
  refine Goes.step ⟨3, ?_⟩
  have d1 : IntKind.wrap .u64 (Int.tdiv (R : Int) 3600) = ((R / 3600 : Nat) : Int) := tdivU (N := R) (k := 3600) (by omega)
  have d2 : IntKind.wrap .u64 (Int.tdiv ((R % 3600 : Nat) : Int) 60) = ((R % 3600 / 60 : Nat) : Int) := tdivU (N := R % 3600) (k := 60) (by omega)
  have d3 : IntKind.wrap .u64 (Int.tdiv ((R % 60 : Nat) : Int) 1) = ((R % 60 : Nat) : Int) := by
    have := tdivU (N := R % 60) (k := 1) (by omega)
    rw [Nat.div_one] at this; exact this
  have m1 : Int.tmod (R : Int) 3600 = ((R % 3600 : Nat) : Int) := rfl
  have m2 : Int.tmod ((R % 3600 : Nat) : Int) 60 = ((R % 60 : Nat) : Int) := by
    rw [show Int.tmod ((R % 3600 : Nat) : Int) 60 = ((R % 3600 % 60 : Nat) : Int) from rfl]; omega
  rw [s25_0, d1, m1, parB_nat (by omega) (by simp), mxs (by simp only [List.length_nil]; omega), cond_true, cond_true]
  rw [L_succ, s25_1, d2, m2, parB_nat (by omega) (by simp), mxs (by simp only [List.length_append, List.length_nil]; omega), cond_true, cond_true]
  rw [L_succ, s25_2, d3, parB_nat (by omega) (by simp), mxs (by simp only [List.length_append, List.length_nil]; omega), cond_true, cond_true]
  rw [L_succ, s25_3]
  have er : [] ++ partL ((R / 3600 : Nat) : Int) [72] ++ partL ((R % 3600 / 60 : Nat) : Int) [77] ++ partL ((R % 60 : Nat) : Int) [83] = restN R := rfl
  rw [er]
  have hr : (restN R).length ≤ 200 := by unfold restN; simp only [List.length_append]; omega
  unfold tailN
  rw [mxs (by simp only [List.length_cons, List.length_nil]; omega), mxs (by simp only [List.length_cons, List.length_nil]; omega), mxs (by simp only [List.length_append, List.length_cons, List.length_nil]; omega), mxs (by simp only [List.length_append, List.length_cons, List.length_nil]; omega), mxs (by simp only [List.length_append, List.length_cons, List.length_nil]; omega)]
  cases hb : (restN R == []) with
  | true =>
    simp only [Bool.not_true, cond_false, cond_true]
    rw [eq_of_beq hb]
  | false => rfl
theorem abs_u {n : Int} (h : i64B n = true) : (0 ≤ n → IntKind.wrap .u64 n = ((n.natAbs : Nat) : Int)) ∧ (n < 0 → IntKind.wrap .u64 (0 - IntKind.wrap .u64 n) = ((n.natAbs : Nat) : Int)) ∧ n.natAbs ≤ 9223372036854775808 := by
  simp only [i64B, Bool.and_eq_true, decide_eq_true_eq] at h
  simp only [IntKind.wrap_u64]
  omega
theorem c25 (n : Int) (h : i64B n = true) : RetX (Γ true mx) 25 [.i .i64 n] [] (.s (spanL n)) [] := by
  obtain ⟨a1, a2, a3⟩ := abs_u h
  cases h0 : (n == 0) with
  | true =>
    refine ret_goes (Γ := Γ true mx) hP hZ h25_ok (by kernel_rfl) ⟨0, ?_⟩
    unfold spanL
    rw [r25, h0]; rfl
  | false =>
    have p0 := part_len (u := n.natAbs / 86400) (by omega) [68]
    simp only [List.length_cons, List.length_nil] at p0
    by_cases hn : n < 0
    · obtain ⟨k, hk⟩ := g25 (mx := mx) [45] (partL ((n.natAbs / 86400 : Nat) : Int) [68]) (n.natAbs % 86400) (by omega) (by simp) (by omega)
      refine ret_goes (Γ := Γ true mx) hP hZ h25_ok (by kernel_rfl) ⟨k, ?_⟩
      unfold spanL sgn
      have d1 : IntKind.wrap .u64 (Int.tdiv ((n.natAbs : Nat) : Int) 86400) = ((n.natAbs / 86400 : Nat) : Int) := tdivU (N := n.natAbs) (k := 86400) (by omega)
      rw [r25, h0, a2 hn, d1, parB_nat (by omega) (by simp), decide_eq_true hn]
      exact hk
    · obtain ⟨k, hk⟩ := g25 (mx := mx) [] (partL ((n.natAbs / 86400 : Nat) : Int) [68]) (n.natAbs % 86400) (by omega) (by simp) (by omega)
      refine ret_goes (Γ := Γ true mx) hP hZ h25_ok (by kernel_rfl) ⟨k, ?_⟩
      unfold spanL sgn
      have d1 : IntKind.wrap .u64 (Int.tdiv ((n.natAbs : Nat) : Int) 86400) = ((n.natAbs / 86400 : Nat) : Int) := tdivU (N := n.natAbs) (k := 86400) (by omega)
      rw [r25, h0, a1 (by omega), d1, parB_nat (by omega) (by simp), decide_eq_false hn]
      exact hk
/-! ### the document's Span -/
theorem h27_ok : CallsOK (Γ true mx) H27 := specs_ok (.cons (spU1_ok c46) .nil)
/-- a number with its letter, or nothing -/
theorem part_nat {x : Nat} {c : List UInt8} : partL (x : Int) c = if x = 0 then [] else Lib.decDigits x ++ c := by
  unfold partL
  by_cases h : x = 0
  · subst h; rfl
  · have : ((x : Int) == 0) = false := by simp <;> omega
    rw [this, if_neg h]; rfl
theorem g27_16 {N x : Nat} (s : List UInt8) (hx : x < 86400) (hs : s.length ≤ 200) :
    Goes (Γ true mx) H27 27 100016 ⟨[(3, .i .u64 (N : Int)), (4, .s s), (8, .i .u64 (x : Int))], []⟩ (.s (s ++ (if x > 0 ∨ N = 0 then Lib.decDigits x ++ [83] else [])), []) := by
  refine Goes.step ⟨0, ?_⟩
  have hd := dd_len (u := x) (by omega)
  rw [r27_100016a, u64C_nat (by omega), Int.toNat_natCast, mxs (by simp only [List.length_cons, List.length_nil]; omega), mxs (by simp only [List.length_append, List.length_cons, List.length_nil]; omega)]
  by_cases h0 : x > 0
  · rw [decide_eq_true (show (x : Int) > 0 by omega), if_pos (.inl h0)]; rfl
  · rw [decide_eq_false (show ¬ (x : Int) > 0 by omega)]
    by_cases hN : N = 0
    · have : ((N : Int) == 0) = true := by simp <;> omega
      rw [this, if_pos (.inr hN)]; rfl
    · have : ((N : Int) == 0) = false := by simp <;> omega
      rw [this, if_neg (by omega), List.append_nil]; rfl
theorem g27_14 {N m x : Nat} (s : List UInt8) (hm : m < 86400) (hx : x < 86400) (hs : s.length ≤ 170) :
    Goes (Γ true mx) H27 27 100014 ⟨[(3, .i .u64 (N : Int)), (4, .s s), (7, .i .u64 (m : Int)), (8, .i .u64 (x : Int))], []⟩ (.s (s ++ partL (m : Int) [77] ++ (if x > 0 ∨ N = 0 then Lib.decDigits x ++ [83] else [])), []) := by
  have hd := dd_len (u := m) (by omega)
  rw [part_nat]
  by_cases h0 : m = 0
  · obtain ⟨k, hk⟩ := g27_16 (mx := mx) (N := N) (x := x) s hx (by omega)
    refine Goes.step ⟨k, ?_⟩
    rw [r27_100014a, decide_eq_false (show ¬ (m : Int) > 0 by omega), if_pos h0, List.append_nil]
    exact hk
  · obtain ⟨k, hk⟩ := g27_16 (mx := mx) (N := N) (x := x) (s ++ (Lib.decDigits m ++ [77])) hx (by simp only [List.length_append, List.length_cons, List.length_nil]; omega)
    refine Goes.step ⟨k, ?_⟩
    rw [r27_100014a, decide_eq_true (show (m : Int) > 0 by omega), if_neg h0, u64C_nat (by omega), Int.toNat_natCast, mxs (by simp only [List.length_cons, List.length_nil]; omega), mxs (by simp only [List.length_append, List.length_cons, List.length_nil]; omega)]
    exact hk
theorem g27_12 {N h m x : Nat} (s : List UInt8) (hh : h < 86400) (hm : m < 86400) (hx : x < 86400) (hs : s.length ≤ 140) :
    Goes (Γ true mx) H27 27 100012 ⟨[(3, .i .u64 (N : Int)), (4, .s s), (6, .i .u64 (h : Int)), (7, .i .u64 (m : Int)), (8, .i .u64 (x : Int))], []⟩ (.s (s ++ partL (h : Int) [72] ++ partL (m : Int) [77] ++ (if x > 0 ∨ N = 0 then Lib.decDigits x ++ [83] else [])), []) := by
  have hd := dd_len (u := h) (by omega)
  rw [part_nat (x := h)]
  by_cases h0 : h = 0
  · obtain ⟨k, hk⟩ := g27_14 (mx := mx) (N := N) (m := m) (x := x) s hm hx (by omega)
    refine Goes.step ⟨k, ?_⟩
    rw [r27_100012a, decide_eq_false (show ¬ (h : Int) > 0 by omega), if_pos h0, List.append_nil]
    exact hk
  · obtain ⟨k, hk⟩ := g27_14 (mx := mx) (N := N) (m := m) (x := x) (s ++ (Lib.decDigits h ++ [72])) hm hx (by simp only [List.length_append, List.length_cons, List.length_nil]; omega)
    refine Goes.step ⟨k, ?_⟩
    rw [r27_100012a, decide_eq_true (show (h : Int) > 0 by omega), if_neg h0, u64C_nat (by omega), Int.toNat_natCast, mxs (by simp only [List.length_cons, List.length_nil]; omega), mxs (by simp only [List.length_append, List.length_cons, List.length_nil]; omega)]
    exact hk
theorem g27_10 {N h m x : Nat} (s : List UInt8) (hh : h < 86400) (hm : m < 86400) (hx : x < 86400) (hs : s.length ≤ 100) :
    Goes (Γ true mx) H27 27 100010 ⟨[(3, .i .u64 (N : Int)), (4, .s s), (6, .i .u64 (h : Int)), (7, .i .u64 (m : Int)), (8, .i .u64 (x : Int))], []⟩ (.s (s ++ (if h + m + x > 0 ∨ N = 0 then [84] else []) ++ partL (h : Int) [72] ++ partL (m : Int) [77] ++ (if x > 0 ∨ N = 0 then Lib.decDigits x ++ [83] else [])), []) := by
  have e1 : IntKind.wrap .u64 (IntKind.wrap .u64 ((h : Int) + (m : Int)) + (x : Int)) = (h : Int) + (m : Int) + (x : Int) := by rw [wrapU (n := (h : Int) + (m : Int)) (by omega) (by omega), wrapU (by omega) (by omega)]
  by_cases hc : h + m + x > 0 ∨ N = 0
  · obtain ⟨k, hk⟩ := g27_12 (mx := mx) (N := N) (h := h) (m := m) (x := x) (s ++ [84]) hh hm hx (by simp only [List.length_append, List.length_cons, List.length_nil]; omega)
    refine Goes.step ⟨k, ?_⟩
    rw [r27_100010a, e1, if_pos hc, mxs (by simp only [List.length_cons, List.length_nil]; omega)]
    by_cases h0 : h + m + x > 0
    · rw [decide_eq_true (show (h : Int) + (m : Int) + (x : Int) > 0 by omega)]; exact hk
    · have : ((N : Int) == 0) = true := by simp <;> omega
      rw [decide_eq_false (show ¬ (h : Int) + (m : Int) + (x : Int) > 0 by omega), this]; exact hk
  · obtain ⟨k, hk⟩ := g27_12 (mx := mx) (N := N) (h := h) (m := m) (x := x) s hh hm hx (by omega)
    refine Goes.step ⟨k, ?_⟩
    have : ((N : Int) == 0) = false := by simp <;> omega
    rw [r27_100010a, e1, if_neg hc, List.append_nil, decide_eq_false (show ¬ (h : Int) + (m : Int) + (x : Int) > 0 by omega), this]; exact hk
theorem g27_7 {N : Nat} (s : List UInt8) (hN : N ≤ 9223372036854775808) (hs : s.length ≤ 10) :
    Goes (Γ true mx) H27 27 100007 ⟨[(3, .i .u64 (N : Int)), (4, .s s)], []⟩ (.s (s ++ partL ((N / 86400 : Nat) : Int) [68] ++ (if N % 86400 / 3600 + N % 3600 / 60 + N % 60 > 0 ∨ N = 0 then [84] else []) ++ partL ((N % 86400 / 3600 : Nat) : Int) [72] ++ partL ((N % 3600 / 60 : Nat) : Int) [77] ++ (if N % 60 > 0 ∨ N = 0 then Lib.decDigits (N % 60) ++ [83] else [])), []) := by
  have hd := dd_len (u := N / 86400) (by omega)
  have d0 : IntKind.wrap .u64 (Int.tdiv (N : Int) 86400) = ((N / 86400 : Nat) : Int) := tdivU (N := N) (k := 86400) (by omega)
  have d1 : IntKind.wrap .u64 (Int.tdiv (Int.tmod (N : Int) 86400) 3600) = ((N % 86400 / 3600 : Nat) : Int) := tdivU (N := N % 86400) (k := 3600) (by omega)
  have d2 : IntKind.wrap .u64 (Int.tdiv (Int.tmod (N : Int) 3600) 60) = ((N % 3600 / 60 : Nat) : Int) := tdivU (N := N % 3600) (k := 60) (by omega)
  have d3 : Int.tmod (N : Int) 60 = ((N % 60 : Nat) : Int) := rfl
  rw [part_nat (x := N / 86400)]
  by_cases h0 : N / 86400 = 0
  · obtain ⟨k, hk⟩ := g27_10 (mx := mx) (N := N) (h := N % 86400 / 3600) (m := N % 3600 / 60) (x := N % 60) s (by omega) (by omega) (by omega) (by omega)
    refine Goes.step ⟨k, ?_⟩
    rw [r27_100007a, d0, d1, d2, d3, decide_eq_false (show ¬ ((N / 86400 : Nat) : Int) > 0 by omega), if_pos h0, List.append_nil]
    exact hk
  · obtain ⟨k, hk⟩ := g27_10 (mx := mx) (N := N) (h := N % 86400 / 3600) (m := N % 3600 / 60) (x := N % 60) (s ++ (Lib.decDigits (N / 86400) ++ [68])) (by omega) (by omega) (by omega) (by simp only [List.length_append, List.length_cons, List.length_nil]; omega)
    refine Goes.step ⟨k, ?_⟩
    rw [r27_100007a, d0, d1, d2, d3, decide_eq_true (show ((N / 86400 : Nat) : Int) > 0 by omega), if_neg h0, u64C_nat (by omega), Int.toNat_natCast, mxs (by simp only [List.length_cons, List.length_nil]; omega), mxs (by simp only [List.length_append, List.length_cons, List.length_nil]; omega)]
    exact hk
theorem part_nil {x : Nat} {c : UInt8} : partL (x : Int) [c] = [] ↔ x = 0 := by
  rw [part_nat]
  by_cases h : x = 0
  · rw [if_pos h]; simp [h]
  · rw [if_neg h]; simp [h]
theorem span_eq {n : Int} : spanL n = sgn n ++ [80] ++ partL ((n.natAbs / 86400 : Nat) : Int) [68] ++ (if n.natAbs % 86400 / 3600 + n.natAbs % 3600 / 60 + n.natAbs % 60 > 0 ∨ n.natAbs = 0 then [84] else []) ++ partL ((n.natAbs % 86400 / 3600 : Nat) : Int) [72] ++ partL ((n.natAbs % 3600 / 60 : Nat) : Int) [77] ++ (if n.natAbs % 60 > 0 ∨ n.natAbs = 0 then Lib.decDigits (n.natAbs % 60) ++ [83] else []) := by
  unfold spanL
  by_cases h0 : n = 0
  · subst h0
    simp only [Int.natAbs_zero, beq_self_eq_true, cond_true, Nat.zero_mod, Nat.zero_div]
    rw [Lib.decDigits_one (by omega)]
    rfl
  · have hb : (n == 0) = false := by simpa using h0
    have hN : n.natAbs ≠ 0 := by omega
    rw [hb, cond_false]
    generalize n.natAbs = N at *
    have e1 : N % 86400 % 3600 = N % 3600 := by omega
    have e2 : N % 86400 % 60 = N % 60 := by omega
    have e3 : (if N % 60 > 0 ∨ N = 0 then Lib.decDigits (N % 60) ++ [83] else []) = partL ((N % 60 : Nat) : Int) [83] := by
      rw [part_nat]
      by_cases hx : N % 60 = 0
      · rw [if_neg (by omega), if_pos hx]
      · rw [if_pos (by omega), if_neg hx]
    unfold tailN restN
    rw [e1, e2, e3]
    by_cases hc : N % 86400 / 3600 + N % 3600 / 60 + N % 60 > 0
    · have hne : (partL ((N % 86400 / 3600 : Nat) : Int) [72] ++ partL ((N % 3600 / 60 : Nat) : Int) [77] ++ partL ((N % 60 : Nat) : Int) [83] == []) = false := by
        apply Bool.eq_false_iff.2
        intro h
        have h := eq_of_beq h
        simp only [List.append_eq_nil_iff, part_nil] at h
        omega
      rw [hne, if_pos (.inl hc)]
      simp only [cond_false, List.append_assoc]
    · have z1 : N % 86400 / 3600 = 0 := by omega
      have z2 : N % 3600 / 60 = 0 := by omega
      have z3 : N % 60 = 0 := by omega
      rw [z1, z2, z3, if_neg (by omega)]
      simp only [part_nil.2 rfl, List.append_nil]
      simp
theorem c27 (n : Int) (h : i64B n = true) : RetX (Γ true mx) 27 [.i .i64 n] [] (.s (spanL n)) [] := by
  obtain ⟨a1, a2, a3⟩ := abs_u h
  rw [span_eq]
  unfold sgn
  simp only [i64B, Bool.and_eq_true, decide_eq_true_eq] at h
  by_cases hn : n < 0
  · obtain ⟨k, hk⟩ := g27_7 (mx := mx) (N := n.natAbs) [45, 80] a3 (by simp)
    refine ret_goes (Γ := Γ true mx) hP hZ h27_ok (by kernel_rfl) ⟨k, ?_⟩
    have e1 : IntKind.wrap .u64 (IntKind.wrap .u64 (IntKind.wrap .i64 (0 - IntKind.wrap .i64 (n + 1))) + 1) = ((n.natAbs : Nat) : Int) := by
      rw [wrapI (n := n + 1) (by omega) (by omega), wrapI (n := 0 - (n + 1)) (by omega) (by omega), wrapU (n := 0 - (n + 1)) (by omega) (by omega), wrapU (by omega) (by omega)]; omega
    rw [r27, decide_eq_false (show ¬ n ≥ 0 by omega), e1, decide_eq_true hn]
    exact hk
  · obtain ⟨k, hk⟩ := g27_7 (mx := mx) (N := n.natAbs) [80] a3 (by simp)
    refine ret_goes (Γ := Γ true mx) hP hZ h27_ok (by kernel_rfl) ⟨k, ?_⟩
    rw [r27, decide_eq_true (show n ≥ 0 by omega), a1 (by omega), decide_eq_false hn]
    exact hk
/-! ### take, ParseSpan -/
theorem h45_ok : CallsOK (Γ true mx) H45 := specs_ok (.cons (sp2_ok fun s p h => c59 s p h) (.cons (spSII_ok c60) .nil))
theorem c45 (r l : List UInt8) (m : Int) (b : Bool) (k : Int) (h : tkC r l k = true) : RetX (Γ true mx) 45 [.ptr 0 [] 72, .s l, .i .u64 k] [some (.box 72 (.d 72 (.agg [.str r, .int .u64 m, .bool b])))] (.tuple [])
    [some (.box 72 (.d 72 (.agg [.str (tkR r m b l k), .int .u64 (tkS r m b l k), .bool (tkB r m b l k)])))] := by
  refine ret_goes (Γ := Γ true mx) hP hZ h45_ok (by kernel_rfl) ⟨0, ?_⟩
  simp only [tkC, Bool.and_eq_true] at h
  obtain ⟨h1, h2, h3⟩ := h
  have h4 : (k == 0) = false := by simpa [bne] using h3
  rw [r45, h1, h2, h4]
  unfold tkR tkS tkB tkOk
  show (bif true then (bif true then _ else none) else none) = _
  simp only [cond_true, cond_false]
  change (bif !((Lib.cut r l).2.2) then _ else (bif puE ((Lib.cut r l).1) then _ else (bif b then _ else (bif tkOv r m l k then _ else _)))) = _
  generalize tkOv r m l k = ov
  cases (Lib.cut r l).2.2 <;> cases puE (Lib.cut r l).1 <;> cases b <;> cases ov <;> rfl
theorem spTake_ok : SpecOK (Γ true mx) ⟨45, spTake⟩ := fun args obs r obs' hr => by
  simp only [spTake] at hr
  split at hr
  · simp only [Option.some.injEq, Prod.mk.injEq, Bool.and_eq_true] at hr
    obtain ⟨⟨h1, h2, h3, h4, h5⟩, rfl, rfl⟩ := hr
    obtain rfl := beq_id h1
    obtain rfl := beq_id h2
    obtain rfl := beq_id h3
    obtain rfl := beq_id h4
    exact c45 _ _ _ _ _ h5
  · exact absurd hr (by simp)
theorem h26_ok : CallsOK (Γ true mx) H26 := specs_ok (.cons (spI1_ok c25) (.cons (sp2_ok c43) (.cons (sp2_ok c44) (.cons spTake_ok .nil))))
theorem cut_len (s p : List UInt8) : (Lib.cut s p).1.length ≤ s.length ∧ (Lib.cut s p).2.1.length ≤ s.length := by
  unfold Lib.cut
  split
  · refine ⟨?_, ?_⟩
    · show (s.take _).length ≤ _; rw [List.length_take]; omega
    · show (s.drop _).length ≤ _; rw [List.length_drop]; omega
  · exact ⟨Nat.le_refl _, Nat.zero_le _⟩
theorem s32_le {a b : List UInt8} (h : s32 a = true) (hl : b.length ≤ a.length) : s32 b = true := by
  simp only [s32, decide_eq_true_eq] at *; omega
theorem tkC_ok {r l : List UInt8} {k : Int} (h : s32 r = true) (hk : (k != 0) = true) : tkC r l k = true := by
  unfold tkC puB
  rw [h, s32_le h (cut_len r l).1, hk]; rfl
theorem tkR_len (r : List UInt8) (m : Int) (b : Bool) (l : List UInt8) (k : Int) : (tkR r m b l k).length ≤ r.length := by
  unfold tkR
  cases (tkOk r b l && !tkOv r m l k)
  · exact Nat.le_refl _
  · exact (cut_len r l).2
theorem cp_len (s p : List UInt8) : (cpS s p).length ≤ s.length := by
  unfold cpS
  cases Lib.hasPrefix s p
  · exact Nat.le_refl _
  · show (s.drop _).length ≤ _; rw [List.length_drop]; omega
theorem tp_len (s p : List UInt8) : (Lib.trimPrefix s p).length ≤ s.length := by
  unfold Lib.trimPrefix
  split
  · rw [List.length_drop]; omega
  · exact Nat.le_refl _
/-- rest, sum, bad -/
def tk (q : List UInt8 × Int × Bool) (l : List UInt8) (k : Int) : List UInt8 × Int × Bool := (tkR q.1 q.2.1 q.2.2 l k, tkS q.1 q.2.1 q.2.2 l k, tkB q.1 q.2.1 q.2.2 l k)
def tr (q : List UInt8 × Int × Bool) : List UInt8 × Int × Bool := (Lib.trimPrefix q.1 [84], q.2.1, q.2.2)
def q0 (s : List UInt8) : List UInt8 × Int × Bool := (Lib.trimPrefix (cpS s [45]) [80], 0, false)
def qF (s : List UInt8) : List UInt8 × Int × Bool := tk (tk (tk (tr (tk (q0 s) [68] 86400)) [72] 3600) [77] 60) [83] 1
def psN (s : List UInt8) : Int := bif Lib.hasPrefix s [45] then IntKind.wrap .i64 (0 - IntKind.wrap .i64 (qF s).2.1) else IntKind.wrap .i64 (qF s).2.1
def psOk (s : List UInt8) : Bool := !(qF s).2.2 && spanL (psN s) == s
def psV (s : List UInt8) : Int := bif psOk s then psN s else 0
def psE (s : List UInt8) : Int := bif psOk s then 0 else 5
theorem i64_wrap (n : Int) : i64B (IntKind.wrap .i64 n) = true := by
  simp only [i64B, Bool.and_eq_true, decide_eq_true_eq, IntKind.wrap_i64]; omega
theorem c26 (s : List UInt8) (h : s32 s = true) : RetX (Γ true mx) 26 [.s s] [] (.tuple [.i .i64 (psV s), .i .i64 (psE s)]) [] := by
  refine ret_goes (Γ := Γ true mx) hP hZ h26_ok (by kernel_rfl) ⟨4, ?_⟩
  have l0 : s32 (q0 s).1 = true := s32_le h (Nat.le_trans (tp_len _ _) (cp_len _ _))
  have l1 : s32 (tr (tk (q0 s) [68] 86400)).1 = true := s32_le l0 (Nat.le_trans (tp_len _ _) (tkR_len _ _ _ _ _))
  have l2 : s32 (tk (tr (tk (q0 s) [68] 86400)) [72] 3600).1 = true := s32_le l1 (tkR_len _ _ _ _ _)
  have l3 : s32 (tk (tk (tr (tk (q0 s) [68] 86400)) [72] 3600) [77] 60).1 = true := s32_le l2 (tkR_len _ _ _ _ _)
  have t0 : tkC (Lib.trimPrefix (cpS s [45]) [80]) [68] 86400 = true := tkC_ok l0 rfl
  rw [r26, t0, cond_true, L_succ]
  have t1 := tkC_ok (l := [72]) (k := 3600) l1 rfl
  have t2 := tkC_ok (l := [77]) (k := 60) l2 rfl
  have t3 := tkC_ok (l := [83]) (k := 1) l3 rfl
  refine (s26_0 (mx := mx) _ s (Lib.hasPrefix s [45]) (tr (tk (q0 s) [68] 86400)).1 (tr (tk (q0 s) [68] 86400)).2.1 (tr (tk (q0 s) [68] 86400)).2.2).trans ?_
  rw [t1, cond_true, L_succ]
  refine (s26_1 (mx := mx) _ s (Lib.hasPrefix s [45]) (tk (tr (tk (q0 s) [68] 86400)) [72] 3600).1 (tk (tr (tk (q0 s) [68] 86400)) [72] 3600).2.1 (tk (tr (tk (q0 s) [68] 86400)) [72] 3600).2.2).trans ?_
  rw [t2, cond_true, L_succ]
  refine (s26_2 (mx := mx) _ s (Lib.hasPrefix s [45]) (tk (tk (tr (tk (q0 s) [68] 86400)) [72] 3600) [77] 60).1 (tk (tk (tr (tk (q0 s) [68] 86400)) [72] 3600) [77] 60).2.1 (tk (tk (tr (tk (q0 s) [68] 86400)) [72] 3600) [77] 60).2.2).trans ?_
  rw [t3, cond_true, L_succ]
  refine (s26_3 (mx := mx) _ s (Lib.hasPrefix s [45]) (qF s).1 (qF s).2.1 (qF s).2.2).trans ?_
  rw [i64_wrap, i64_wrap]
  unfold psV psE psOk psN
  generalize (qF s).2.1 = m
  generalize (qF s).2.2 = b
  cases Lib.hasPrefix s [45] <;> cases b <;> simp only [cond_true, cond_false, Bool.not_true, Bool.not_false, Bool.false_and, Bool.true_and]
  · cases (spanL (IntKind.wrap .i64 m) == s) <;> rfl
  · cases (spanL (IntKind.wrap .i64 (0 - IntKind.wrap .i64 m)) == s) <;> rfl
end Go.Proofs.YtlmdkclchjcapaaDoor.V
