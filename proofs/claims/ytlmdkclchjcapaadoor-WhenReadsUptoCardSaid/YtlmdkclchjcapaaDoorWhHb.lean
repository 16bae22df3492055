/- Dates: Parse and the document's Parse come to the same. -/
import Derived.Test.YtlmdkclchjcapaaDoorWhH
namespace Go.Proofs.YtlmdkclchjcapaaDoor.V
open Go
set_option maxRecDepth 100000
set_option linter.unusedVariables false
set_option linter.unusedSimpArgs false
variable {u : Bool} {mx : Int}
theorem dig_b {c : UInt8} (h : digB c = true) : 48 ≤ (c.toNat : Int) ∧ (c.toNat : Int) ≤ 57 := by
  simpa [digB] using h
theorem acc_b {n m : Int} {c : UInt8} (h : digB c = true) (h0 : 0 ≤ n) (h1 : n ≤ m) (hm : m ≤ 9999) : accZ n c = n * 10 + ((c.toNat : Int) - 48) ∧ 0 ≤ accZ n c ∧ accZ n c ≤ m * 10 + 9 := by
  have := dig_b h
  have e : accZ n c = n * 10 + ((c.toNat : Int) - 48) := by
    unfold accZ
    rw [IntKind.wrap_u8, IntKind.wrap_i64, IntKind.wrap_i64, IntKind.wrap_i64]
    omega
  rw [e]
  omega
theorem num2 {a b : UInt8} (ha : digB a = true) (hb : digB b = true) : accZ (accZ 0 a) b = numZ [a, b] := by
  obtain ⟨e1, e2, e3⟩ := acc_b ha (Int.le_refl 0) (Int.le_refl 0) (by omega)
  obtain ⟨f1, f2, f3⟩ := acc_b hb e2 e3 (by omega)
  rw [f1, e1]; rfl
theorem num4 {a b c d : UInt8} (ha : digB a = true) (hb : digB b = true) (hc : digB c = true) (hd : digB d = true) : accZ (accZ (accZ (accZ 0 a) b) c) d = numZ [a, b, c, d] := by
  obtain ⟨e1, e2, e3⟩ := acc_b ha (Int.le_refl 0) (Int.le_refl 0) (by omega)
  obtain ⟨f1, f2, f3⟩ := acc_b hb e2 e3 (by omega)
  obtain ⟨g1, g2, g3⟩ := acc_b hc f2 f3 (by omega)
  obtain ⟨h1, h2, h3⟩ := acc_b hd g2 g3 (by omega)
  rw [h1, g1, f1, e1]; rfl
theorem form20 (c0 c1 c2 c3 c4 c5 c6 c7 c8 c9 c10 c11 c12 c13 c14 c15 c16 c17 c18 c19 : UInt8) : formB formL [c0, c1, c2, c3, c4, c5, c6, c7, c8, c9, c10, c11, c12, c13, c14, c15, c16, c17, c18, c19] = (digB c0 && (digB c1 && (digB c2 && (digB c3 && ((c4.toNat : Int) == 45 && (digB c5 && (digB c6 && ((c7.toNat : Int) == 45 && (digB c8 && (digB c9 && ((c10.toNat : Int) == 84 && (digB c11 && (digB c12 && ((c13.toNat : Int) == 58 && (digB c14 && (digB c15 && ((c16.toNat : Int) == 58 && (digB c17 && (digB c18 && ((c19.toNat : Int) == 90 && true)))))))))))))))))))) := by kernel_rfl
theorem list20 {s : List UInt8} (h : s.length = 20) : ∃ c0 c1 c2 c3 c4 c5 c6 c7 c8 c9 c10 c11 c12 c13 c14 c15 c16 c17 c18 c19, s = [c0, c1, c2, c3, c4, c5, c6, c7, c8, c9, c10, c11, c12, c13, c14, c15, c16, c17, c18, c19] := by
  match s, h with
  | [c0, c1, c2, c3, c4, c5, c6, c7, c8, c9, c10, c11, c12, c13, c14, c15, c16, c17, c18, c19], _ => exact ⟨c0, c1, c2, c3, c4, c5, c6, c7, c8, c9, c10, c11, c12, c13, c14, c15, c16, c17, c18, c19, rfl⟩
theorem par20 (c0 c1 c2 c3 c4 c5 c6 c7 c8 c9 c10 c11 c12 c13 c14 c15 c16 c17 c18 c19 : UInt8) : (.tuple [.i .i64 (parV [c0, c1, c2, c3, c4, c5, c6, c7, c8, c9, c10, c11, c12, c13, c14, c15, c16, c17, c18, c19]), .i .i64 (parE [c0, c1, c2, c3, c4, c5, c6, c7, c8, c9, c10, c11, c12, c13, c14, c15, c16, c17, c18, c19])], []) = (bif (digB c0 && (digB c1 && (digB c2 && (digB c3 && ((c4.toNat : Int) == 45 && (digB c5 && (digB c6 && ((c7.toNat : Int) == 45 && (digB c8 && (digB c9 && ((c10.toNat : Int) == 84 && (digB c11 && (digB c12 && ((c13.toNat : Int) == 58 && (digB c14 && (digB c15 && ((c16.toNat : Int) == 58 && (digB c17 && (digB c18 && ((c19.toNat : Int) == 90 && true)))))))))))))))))))) then secR (numZ [c0, c1, c2, c3]) (numZ [c5, c6]) (numZ [c8, c9]) (numZ [c11, c12]) (numZ [c14, c15]) (numZ [c17, c18]) else errR) := by
  unfold parV parE
  rw [form20]
  cases hb : (digB c0 && (digB c1 && (digB c2 && (digB c3 && ((c4.toNat : Int) == 45 && (digB c5 && (digB c6 && ((c7.toNat : Int) == 45 && (digB c8 && (digB c9 && ((c10.toNat : Int) == 84 && (digB c11 && (digB c12 && ((c13.toNat : Int) == 58 && (digB c14 && (digB c15 && ((c16.toNat : Int) == 58 && (digB c17 && (digB c18 && ((c19.toNat : Int) == 90 && true)))))))))))))))))))) with
  | false => rfl
  | true =>
    rfl
theorem spA11 : CallsOK (Γ u mx) H20 := specs_ok (.cons (spDt_ok c11) .nil)
theorem bad_len {s : List UInt8} (h : s.length ≠ 20) : parA s = .tuple [.i .i64 0, .i .i64 5] := by
  have hf : formB formL s = false := Bool.eq_false_iff.2 fun hf => h (form_len hf)
  unfold parA parV parE
  rw [hf]; rfl
theorem c20 (s : List UInt8) (_ : true = true) : RetX (Γ u mx) 20 [.s s] [] (parA s) [] := by
  by_cases hl : s.length = 20
  · obtain ⟨c0, c1, c2, c3, c4, c5, c6, c7, c8, c9, c10, c11, c12, c13, c14, c15, c16, c17, c18, c19, rfl⟩ := list20 hl
    obtain ⟨n, h⟩ := g20_0 (u := u) (mx := mx) c0 c1 c2 c3 c4 c5 c6 c7 c8 c9 c10 c11 c12 c13 c14 c15 c16 c17 c18 c19 0 0 0 0 0 0
    refine ret_goes (Γ := Γ u mx) hP hZ spA11 (by kernel_rfl) ⟨n, ?_⟩
    have e20 : (((List.length [c0, c1, c2, c3, c4, c5, c6, c7, c8, c9, c10, c11, c12, c13, c14, c15, c16, c17, c18, c19] : Nat) : Int) != 20) = false := rfl
    rw [r20, e20, cond_false]
    refine h.trans ?_
    unfold parA
    rw [par20]
    cases hb : (digB c0 && (digB c1 && (digB c2 && (digB c3 && ((c4.toNat : Int) == 45 && (digB c5 && (digB c6 && ((c7.toNat : Int) == 45 && (digB c8 && (digB c9 && ((c10.toNat : Int) == 84 && (digB c11 && (digB c12 && ((c13.toNat : Int) == 58 && (digB c14 && (digB c15 && ((c16.toNat : Int) == 58 && (digB c17 && (digB c18 && ((c19.toNat : Int) == 90 && true)))))))))))))))))))) with
    | false => rw [cond_false, cond_false]
    | true =>
      simp only [Bool.and_eq_true] at hb
      obtain ⟨h0, h1, h2, h3, h4, h5, h6, h7, h8, h9, h10, h11, h12, h13, h14, h15, h16, h17, h18, h19, _⟩ := hb
      rw [num4 h0 h1 h2 h3, num2 h5 h6, num2 h8 h9, num2 h11 h12, num2 h14 h15, num2 h17 h18]
  · refine ret_goes (Γ := Γ u mx) hP hZ spA11 (by kernel_rfl) ⟨0, ?_⟩
    have e : (((s.length : Int)) != 20) = true := by simp <;> omega
    rw [r20, e, bad_len hl]; rfl
theorem digv {c : UInt8} (h : digB c = true) : ∃ d : Nat, Lib.digitVal c = some d ∧ (d : Int) = (c.toNat : Int) - 48 := by
  have := dig_b h
  refine ⟨c.toNat - 48, ?_, by omega⟩
  unfold Lib.digitVal
  rw [if_pos (by omega)]
theorem decFrom_num : ∀ (l : List UInt8) (a : Nat), l.all digB = true → ∃ m : Nat, Lib.decFrom a l = some m ∧ (m : Int) = l.foldl (fun a c => a * 10 + ((c.toNat : Int) - 48)) (a : Int)
  | [], a, _ => ⟨a, rfl, rfl⟩
  | c :: r, a, h => by
    simp only [List.all_cons, Bool.and_eq_true] at h
    obtain ⟨d, h1, h2⟩ := digv h.1
    obtain ⟨m, h3, h4⟩ := decFrom_num r (a * 10 + d) h.2
    refine ⟨m, by rw [Lib.decFrom, h1]; exact h3, ?_⟩
    rw [h4, List.foldl_cons, ← h2]
    congr 1
theorem atoi_num {l : List UInt8} (h0 : l ≠ []) (hl : l.length ≤ 18) (h : l.all digB = true) : atoiB l = true ∧ atoiZ l = numZ l := by
  obtain ⟨m, h1, h2⟩ := decFrom_num l 0 h
  match l, h0 with
  | c :: r, _ =>
    have hc := dig_b (by simp only [List.all_cons, Bool.and_eq_true] at h; exact h.1 : digB c = true)
    have e1 : (c == (45 : UInt8)) = false := by
      apply Bool.eq_false_iff.2; intro he; obtain rfl := eq_of_beq he; revert hc; decide
    have e2 : (c == (43 : UInt8)) = false := by
      apply Bool.eq_false_iff.2; intro he; obtain rfl := eq_of_beq he; revert hc; decide
    have e3 : Lib.atoi (c :: r) = some (m : Int) := by
      unfold Lib.atoi Lib.decNat
      simp [e1, e2, h1]
    refine ⟨?_, ?_⟩
    · unfold atoiB
      rw [e3]
      simp only [Option.isSome_some, Bool.and_true, decide_eq_true_eq]
      exact hl
    · unfold atoiZ
      rw [e3]
      exact h2
theorem h19_ok : CallsOK (Γ u mx) H19 := specs_ok (.cons (spDt_ok c10) (.cons (sp1_ok fun s h => atoi_ret s h) .nil))
theorem idx_at {R : Type} {α : Type} {l : List α} {n : Int} {a : α} (K : α → Option R) (h0 : 0 ≤ n) (h : l[n.toNat]? = some a) : idx l n K = K a := by
  unfold idx; rw [decide_eq_true h0]
  show lGet l n.toNat K = K a
  unfold lGet; rw [h]
theorem idx_mid {R : Type} {α : Type} (pre r : List α) (c : α) (K : α → Option R) : idx (pre ++ c :: r) (pre.length : Int) K = K c := idx_at K (by omega) (by simp)
theorem g19L (S : List UInt8) (R : AV × Objs) (hR : formB formL S = true → Goes (Γ u mx) H19 19 12 ⟨[(0, .s S), (6, .ptr 0 [] 57), (51, .d 59 (D.agg [D.agg [D.int .i64 0, D.int .i64 4], D.agg [D.int .i64 5, D.int .i64 7], D.agg [D.int .i64 8, D.int .i64 10], D.agg [D.int .i64 11, D.int .i64 13], D.agg [D.int .i64 14, D.int .i64 16], D.agg [D.int .i64 17, D.int .i64 19]])), (52, .i .i64 0)], [some (.box 57 (.d 57 (D.agg [D.int .i64 0, D.int .i64 0, D.int .i64 0, D.int .i64 0, D.int .i64 0, D.int .i64 0])))]⟩ R) (hl : S.length = 20) : ∀ (rest frest pre fpre : List UInt8) (i : Int), S = pre ++ rest → formL = fpre ++ frest → pre.length = fpre.length → i = (pre.length : Int) → formB formL S = formB frest rest →
    Goes (Γ u mx) H19 19 4 ⟨[(0, .s S), (13, .i .i64 (S.length : Int)), (14, .i .i64 i)], []⟩ (bif formB frest rest then R else errR)
  | [], frest, pre, fpre, i, hS, hF, hp, hi, hb => by
    subst hi
    have h1 : pre.length = 20 := by rw [hS] at hl; simpa using hl
    have h2 : frest = [] := by
      have : (fpre ++ frest).length = 20 := by rw [← hF]; rfl
      rw [List.length_append] at this
      exact List.eq_nil_of_length_eq_zero (by omega)
    subst h2
    obtain ⟨n, h⟩ := hR (by rw [hb]; rfl)
    refine Goes.step ⟨n, ?_⟩
    rw [r19_4a, decide_eq_false (show ¬ ((pre.length : Int)) < (S.length : Int) by omega)]
    exact h
  | c :: r, [], pre, fpre, i, hS, hF, hp, hi, hb => by
    exfalso
    have h1 : formL.length = fpre.length := by rw [hF]; simp
    have h2 : S.length = pre.length + (r.length + 1) := by rw [hS]; simp
    have : formL.length = 20 := rfl
    omega
  | c :: r, f :: fr, pre, fpre, i, hS, hF, hp, hi, hb => by
    subst hi
    have h2 : S.length = pre.length + (r.length + 1) := by rw [hS]; simp
    have hid : ∀ {R : Type} (K : UInt8 → Option R), idx S (pre.length : Int) K = K c := fun K => by rw [hS]; exact idx_mid pre r c K
    have hif : ∀ {R : Type} (K : UInt8 → Option R), idx formL (pre.length : Int) K = K f := fun K => by rw [hF, hp]; exact idx_mid fpre fr f K
    unfold formL at hif
    have hw : IntKind.wrap .i64 ((pre.length : Int) + 1) = (pre.length : Int) + 1 := wrap_id (by omega) (by omega)
    have hfb : formB (f :: fr) (c :: r) = (okC f c && formB fr r) := rfl
    have hf48 : ((f.toNat : Int) == 48) = (f == 48) := by
      rw [Bool.eq_iff_iff, beq_iff_eq, beq_iff_eq]
      constructor
      · intro h; exact UInt8.toNat_inj.1 (by simpa using (by omega : f.toNat = 48))
      · rintro rfl; rfl
    cases hok : okC f c with
    | true =>
      obtain ⟨n, hn⟩ := g19L S R hR hl r fr (pre ++ [c]) (fpre ++ [f]) ((pre.length : Int) + 1) (by rw [hS]; simp) (by rw [hF]; simp) (by simp [hp]) (by simp) (by rw [hb, hfb, hok, Bool.true_and])
      refine Goes.step ⟨n, ?_⟩
      rw [r19_4a, hfb, hok, Bool.true_and, decide_eq_true (show ((pre.length : Int)) < (S.length : Int) by omega), cond_true]
      simp only [hid, hif, hw, hf48]
      unfold okC at hok
      cases hfe : (f == 48) with
      | true =>
        rw [hfe, cond_true] at hok
        have hd := dig_b hok
        rw [decide_eq_true (show (c.toNat : Int) ≥ 48 by omega), decide_eq_true hd.2]
        exact hn
      | false =>
        rw [hfe, cond_false, beq_iff_eq] at hok
        have hne : ((c.toNat : Int) != (f.toNat : Int)) = false := by simp [hok]
        rw [hne]
        have hn48 : ¬ (48 ≤ (f.toNat : Int) ∧ (f.toNat : Int) ≤ 57) := by
          have hm : f ∈ formL := by rw [hF]; simp
          have : ∀ f ∈ formL, (f == 48) = false → ¬ (48 ≤ (f.toNat : Int) ∧ (f.toNat : Int) ≤ 57) := by decide +kernel
          exact this f hm hfe
        by_cases hge : (c.toNat : Int) ≥ 48
        · rw [decide_eq_true hge, decide_eq_false (show ¬ (c.toNat : Int) ≤ 57 by omega)]
          exact hn
        · rw [decide_eq_false hge]
          exact hn
    | false =>
      refine Goes.step ⟨0, ?_⟩
      rw [r19_4a, hfb, hok, Bool.false_and, decide_eq_true (show ((pre.length : Int)) < (S.length : Int) by omega), cond_true]
      simp only [hid, hif, hw, hf48]
      unfold okC at hok
      cases hfe : (f == 48) with
      | true =>
        rw [hfe, cond_true] at hok
        unfold digB at hok
        by_cases hge : (c.toNat : Int) ≥ 48
        · rw [decide_eq_true (show 48 ≤ (c.toNat : Int) from hge), Bool.true_and] at hok
          rw [decide_eq_true hge, hok]; rfl
        · rw [decide_eq_false hge]; rfl
      | false =>
        rw [hfe, cond_false] at hok
        have hne : ((c.toNat : Int) != (f.toNat : Int)) = true := by rw [bne, hok]; rfl
        rw [hne]
        by_cases hge : (c.toNat : Int) ≥ 48
        · rw [decide_eq_true hge]
          cases decide ((c.toNat : Int) ≤ 57) <;> rfl
        · rw [decide_eq_false hge]; rfl
theorem c19 (s : List UInt8) (_ : true = true) : RetX (Γ u mx) 19 [.s s] [] (parA s) [] := by
  by_cases hl : s.length = 20
  · obtain ⟨c0, c1, c2, c3, c4, c5, c6, c7, c8, c9, c10, c11, c12, c13, c14, c15, c16, c17, c18, c19, rfl⟩ := list20 hl
    have hR : formB formL [c0, c1, c2, c3, c4, c5, c6, c7, c8, c9, c10, c11, c12, c13, c14, c15, c16, c17, c18, c19] = true → Goes (Γ u mx) H19 19 12 ⟨[(0, .s [c0, c1, c2, c3, c4, c5, c6, c7, c8, c9, c10, c11, c12, c13, c14, c15, c16, c17, c18, c19]), (6, .ptr 0 [] 57), (51, .d 59 (D.agg [D.agg [D.int .i64 0, D.int .i64 4], D.agg [D.int .i64 5, D.int .i64 7], D.agg [D.int .i64 8, D.int .i64 10], D.agg [D.int .i64 11, D.int .i64 13], D.agg [D.int .i64 14, D.int .i64 16], D.agg [D.int .i64 17, D.int .i64 19]])), (52, .i .i64 0)], [some (.box 57 (.d 57 (D.agg [D.int .i64 0, D.int .i64 0, D.int .i64 0, D.int .i64 0, D.int .i64 0, D.int .i64 0])))]⟩ (secR (numZ [c0, c1, c2, c3]) (numZ [c5, c6]) (numZ [c8, c9]) (numZ [c11, c12]) (numZ [c14, c15]) (numZ [c17, c18])) := fun hb => by
      rw [form20] at hb
      simp only [Bool.and_eq_true] at hb
      obtain ⟨h0, h1, h2, h3, h4, h5, h6, h7, h8, h9, h10, h11, h12, h13, h14, h15, h16, h17, h18, h19, _⟩ := hb
      have q0 := atoi_num (l := [c0, c1, c2, c3]) (by simp) (by simp) (by simp [h0, h1, h2, h3])
      have q1 := atoi_num (l := [c5, c6]) (by simp) (by simp) (by simp [h5, h6])
      have q2 := atoi_num (l := [c8, c9]) (by simp) (by simp) (by simp [h8, h9])
      have q3 := atoi_num (l := [c11, c12]) (by simp) (by simp) (by simp [h11, h12])
      have q4 := atoi_num (l := [c14, c15]) (by simp) (by simp) (by simp [h14, h15])
      have q5 := atoi_num (l := [c17, c18]) (by simp) (by simp) (by simp [h17, h18])
      have hg := g19_0 (u := u) (mx := mx) c0 c1 c2 c3 c4 c5 c6 c7 c8 c9 c10 c11 c12 c13 c14 c15 c16 c17 c18 c19 0 0 0 0 0 0 q0.1 q1.1 q2.1 q3.1 q4.1 q5.1
      rw [q0.2, q1.2, q2.2, q3.2, q4.2, q5.2] at hg
      exact hg
    obtain ⟨n, h⟩ := g19L (u := u) (mx := mx) [c0, c1, c2, c3, c4, c5, c6, c7, c8, c9, c10, c11, c12, c13, c14, c15, c16, c17, c18, c19] _ hR rfl [c0, c1, c2, c3, c4, c5, c6, c7, c8, c9, c10, c11, c12, c13, c14, c15, c16, c17, c18, c19] formL [] [] 0 rfl rfl rfl rfl rfl
    refine ret_goes (Γ := Γ u mx) hP hZ h19_ok (by kernel_rfl) ⟨n, ?_⟩
    have e20 : (((List.length [c0, c1, c2, c3, c4, c5, c6, c7, c8, c9, c10, c11, c12, c13, c14, c15, c16, c17, c18, c19] : Nat) : Int) != 20) = false := rfl
    rw [r19, e20, cond_false]
    refine h.trans ?_
    unfold parA
    rw [par20, form20]
  · refine ret_goes (Γ := Γ u mx) hP hZ h19_ok (by kernel_rfl) ⟨0, ?_⟩
    have e : (((s.length : Int)) != 20) = true := by simp <;> omega
    rw [r19, e, bad_len hl]; rfl
end Go.Proofs.YtlmdkclchjcapaaDoor.V
