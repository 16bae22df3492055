/- Spans: what is read of a span's text is the span; the laws. -/
import Derived.Test.YtlmdkclchjcapaaDoorWhM
import Derived.Test.YtlmdkclchjcapaaDoorWhJ
namespace Go.Proofs.YtlmdkclchjcapaaDoor.V
open Go
set_option maxRecDepth 100000
set_option linter.unusedVariables false
set_option linter.unusedSimpArgs false
variable {mx : Int}
/-! ### plain laws -/
def noC (c : UInt8) (l : List UInt8) : Bool := l.all fun x => !(x == c)
theorem noC_app (c : UInt8) (a b : List UInt8) : noC c (a ++ b) = (noC c a && noC c b) := by simp [noC]
theorem index_miss (c : UInt8) : ∀ (l : List UInt8), noC c l = true → Lib.index l [c] = -1
  | [], _ => rfl
  | b :: l, h => by
    simp only [noC, List.all_cons, Bool.and_eq_true, Bool.not_eq_true'] at h
    have hp : ([c].isPrefixOf (b :: l)) = false := by
      simp only [List.isPrefixOf, Bool.and_true]
      apply Bool.eq_false_iff.2; intro he
      have := eq_of_beq he
      subst this
      simp at h
    rw [Lib.index, hp, index_miss c l h.2]; rfl
theorem index_hit1 (c : UInt8) (t : List UInt8) : ∀ (a : List UInt8), noC c a = true → Lib.index (a ++ c :: t) [c] = (a.length : Int)
  | [], _ => by
    show Lib.index (c :: t) [c] = 0
    rw [Lib.index]
    simp [List.isPrefixOf]
  | b :: l, h => by
    simp only [noC, List.all_cons, Bool.and_eq_true, Bool.not_eq_true'] at h
    have hp : ([c].isPrefixOf (b :: (l ++ c :: t))) = false := by
      simp only [List.isPrefixOf, Bool.and_true]
      apply Bool.eq_false_iff.2; intro he
      have := eq_of_beq he
      subst this
      simp at h
    show Lib.index (b :: (l ++ c :: t)) [c] = _
    rw [Lib.index, hp, index_hit1 c t l h.2]
    have : ((l.length : Int) == -1) = false := by simp <;> omega
    rw [this]
    simp
theorem cut_miss {c : UInt8} {l : List UInt8} (h : noC c l = true) : Lib.cut l [c] = (l, [], false) := by
  unfold Lib.cut
  rw [index_miss c l h]; rfl
theorem cut_hit {c : UInt8} {a : List UInt8} (t : List UInt8) (h : noC c a = true) : Lib.cut (a ++ c :: t) [c] = (a, t, true) := by
  unfold Lib.cut
  rw [index_hit1 c t a h, if_pos (by omega)]
  have e1 : ((a.length : Int)).toNat = a.length := by omega
  have e2 : (((a.length : Int)).toNat + [c].length) = a.length + 1 := by simp
  rw [e1, List.take_left' rfl]
  show (a, (a ++ c :: t).drop (a.length + 1), true) = _
  rw [show a ++ c :: t = (a ++ [c]) ++ t by simp, List.drop_left' (by simp)]
theorem dd_noC {c : UInt8} (hc : c.toNat < 48 ∨ 57 < c.toNat) (u : Nat) : noC c (Lib.decDigits u) = true := by
  induction u using Nat.strongRecOn with
  | ind u ih =>
    have hd : ∀ d, d < 10 → noC c [UInt8.ofNat (48 + d)] = true := fun d hd => by
      simp only [noC, List.all_cons, List.all_nil, Bool.and_true, Bool.not_eq_true']
      apply Bool.eq_false_iff.2; intro he
      have := u8n hd
      rw [eq_of_beq he] at this
      omega
    rw [Lib.decDigits]
    by_cases h : u < 10
    · rw [dif_pos h]; exact hd u h
    · rw [dif_neg h, noC_app, ih (u / 10) (by omega), hd _ (by omega)]; rfl
theorem pu_dd (u : Nat) (h : u < 18446744073709551616) : ∀ t, Lib.parseUintM 18446744073709551615 0 (Lib.decDigits u ++ t) = Lib.parseUintM 18446744073709551615 u t := by
  induction u using Nat.strongRecOn with
  | ind u ih =>
    intro t
    by_cases h10 : u < 10
    · rw [Lib.decDigits_one h10]
      show Lib.parseUintM _ 0 (UInt8.ofNat (48 + u) :: t) = _
      rw [Lib.parseUintM, u8n h10, if_pos (by omega), if_neg (by omega), if_neg (by omega)]
      congr 1; omega
    · rw [Lib.decDigits, dif_neg h10, List.append_assoc, ih (u / 10) (by omega) (by omega)]
      show Lib.parseUintM _ (u / 10) (UInt8.ofNat (48 + u % 10) :: t) = _
      rw [Lib.parseUintM, u8n (show u % 10 < 10 by omega), if_pos (by omega), if_neg (by omega), if_neg (by omega)]
      congr 1; omega
theorem dd_ne (u : Nat) : Lib.decDigits u ≠ [] := by
  rw [Lib.decDigits]
  split <;> simp
theorem pu_val {u : Nat} (h : u < 18446744073709551616) : puV (Lib.decDigits u) = (u : Int) ∧ puE (Lib.decDigits u) = false := by
  have e : Lib.parseUintB 64 (Lib.decDigits u) = .ok u := by
    unfold Lib.parseUintB
    rw [if_neg (dd_ne u)]
    have := pu_dd u h []
    rw [List.append_nil] at this
    exact this
  unfold puV puE
  rw [e]; exact ⟨rfl, rfl⟩
/-- a number with its letter is taken -/
theorem tk_part {c : UInt8} (hc : c.toNat < 48 ∨ 57 < c.toNat) {v k a : Nat} (t : List UInt8) (ht : noC c t = true) (hk : 0 < k) (hv : a + v * k ≤ 9223372036854775808) :
    tk (partL (v : Int) [c] ++ t, (a : Int), false) [c] (k : Int) = (t, ((a + v * k : Nat) : Int), false) := by
  rw [part_nat]
  by_cases h0 : v = 0
  · subst h0
    rw [if_pos rfl]
    show tk (t, (a : Int), false) [c] (k : Int) = _
    have ho : tkOk t false [c] = false := by unfold tkOk; rw [cut_miss ht]; rfl
    unfold tk tkR tkS tkB
    simp only [ho, Bool.false_and, cond_false]
    simp
  · have hvk : v ≤ v * k := Nat.le_mul_of_pos_right v hk
    have hcut : Lib.cut (Lib.decDigits v ++ [c] ++ t) [c] = (Lib.decDigits v, t, true) := by
      rw [List.append_assoc]; exact cut_hit t (dd_noC hc v)
    obtain ⟨p1, p2⟩ := pu_val (u := v) (by omega)
    rw [if_neg h0]
    have ho : tkOk (Lib.decDigits v ++ [c] ++ t) false [c] = true := by unfold tkOk; rw [hcut]; simp [p2]
    have hle : v ≤ (9223372036854775808 - a) / k := (Nat.le_div_iff_mul_le hk).2 (by omega)
    have hq : (9223372036854775808 - a) / k ≤ 9223372036854775808 - a := Nat.div_le_self _ _
    have hov : tkOv (Lib.decDigits v ++ [c] ++ t) (a : Int) [c] (k : Int) = false := by
      unfold tkOv
      rw [hcut]
      show decide (puV (Lib.decDigits v) > _) = false
      rw [p1, show (9223372036854775808 : Int) - (a : Int) = ((9223372036854775808 - a : Nat) : Int) by omega, wrapU (n := ((9223372036854775808 - a : Nat) : Int)) (by omega) (by omega), show Int.tdiv ((9223372036854775808 - a : Nat) : Int) (k : Int) = (((9223372036854775808 - a) / k : Nat) : Int) from rfl]
      generalize (9223372036854775808 - a) / k = q at *
      rw [wrapU (by omega) (by omega)]
      exact decide_eq_false (by omega)
    unfold tk tkR tkS tkB
    simp only [ho, hov, Bool.not_false, Bool.and_self, Bool.and_false, cond_true, cond_false, hcut, p1]
    have e1 : (v : Int) * (k : Int) = ((v * k : Nat) : Int) := by simp
    rw [e1]
    generalize v * k = p at *
    rw [wrapU (n := (p : Int)) (by omega) (by omega), wrapU (by omega) (by omega)]
    simp
theorem hp_no {c : UInt8} {s : List UInt8} (h : s.head? ≠ some c) : Lib.hasPrefix s [c] = false := by
  cases s with
  | nil => rfl
  | cons b l =>
    unfold Lib.hasPrefix
    simp only [List.isPrefixOf, Bool.and_true]
    apply Bool.eq_false_iff.2; intro he
    apply h; rw [eq_of_beq he]; rfl
theorem hp_yes (c : UInt8) (s : List UInt8) : Lib.hasPrefix (c :: s) [c] = true := by
  unfold Lib.hasPrefix
  simp [List.isPrefixOf]
theorem tp_yes (c : UInt8) (s : List UInt8) : Lib.trimPrefix (c :: s) [c] = s := by
  unfold Lib.trimPrefix
  rw [hp_yes]; rfl
theorem tp_no {c : UInt8} {s : List UInt8} (h : s.head? ≠ some c) : Lib.trimPrefix s [c] = s := by
  unfold Lib.trimPrefix
  rw [hp_no h]; rfl
theorem part_noC {c d : UInt8} (hc : c.toNat < 48 ∨ 57 < c.toNat) (hd : (d == c) = false) (v : Nat) : noC c (partL (v : Int) [d]) = true := by
  rw [part_nat]
  split
  · rfl
  · rw [noC_app, dd_noC hc]
    simp [noC, hd]
theorem dig_head {u : Nat} {t : List UInt8} : (Lib.decDigits u ++ t).head? ≠ some 84 := by
  have h := dd_noC (c := 84) (by decide) u
  have hn := dd_ne u
  cases hd : Lib.decDigits u with
  | nil => exact absurd hd hn
  | cons b l =>
    rw [hd] at h
    simp only [noC, List.all_cons, Bool.and_eq_true, Bool.not_eq_true'] at h
    intro he
    simp only [List.cons_append, List.head?_cons, Option.some.injEq] at he
    rw [he] at h
    simp at h
theorem part_head {v : Nat} {d : UInt8} {t : List UInt8} (ht : t.head? ≠ some 84) : (partL (v : Int) [d] ++ t).head? ≠ some 84 := by
  rw [part_nat]
  split
  · exact ht
  · rw [List.append_assoc]; exact dig_head
theorem tail_trim (r : Nat) : Lib.trimPrefix (tailN r) [84] = restN r := by
  unfold tailN
  cases hb : (restN r == []) with
  | true => rw [cond_true, eq_of_beq hb]; rfl
  | false => exact tp_yes 84 _
theorem tail_noD (r : Nat) : noC 68 (tailN r) = true := by
  have h : noC 68 (restN r) = true := by
    unfold restN
    rw [noC_app, noC_app, part_noC (by decide) (by decide), part_noC (by decide) (by decide), part_noC (by decide) (by decide)]; rfl
  unfold tailN
  cases (restN r == [])
  · rw [cond_false, noC_app, h]; rfl
  · rfl
/-- a span's text, read part by part -/
theorem take_all (N : Nat) (hN : N ≤ 9223372036854775808) :
    tk (tk (tk (tr (tk (partL ((N / 86400 : Nat) : Int) [68] ++ tailN (N % 86400), 0, false) [68] 86400)) [72] 3600) [77] 60) [83] 1 = ([], (N : Int), false) := by
  have h1 := tk_part (c := 68) (by decide) (v := N / 86400) (k := 86400) (a := 0) (tailN (N % 86400)) (tail_noD _) (by omega) (by omega)
  rw [show ((0 : Nat) : Int) = 0 from rfl, show ((86400 : Nat) : Int) = 86400 from rfl] at h1
  rw [h1]
  unfold tr
  rw [tail_trim]
  unfold restN
  rw [List.append_assoc]
  have h2 := tk_part (c := 72) (by decide) (v := N % 86400 / 3600) (k := 3600) (a := 0 + N / 86400 * 86400) (partL ((N % 86400 % 3600 / 60 : Nat) : Int) [77] ++ partL ((N % 86400 % 60 : Nat) : Int) [83])
    (by rw [noC_app, part_noC (by decide) (by decide), part_noC (by decide) (by decide)]; rfl) (by omega) (by omega)
  rw [show ((3600 : Nat) : Int) = 3600 from rfl] at h2
  rw [h2]
  have h3 := tk_part (c := 77) (by decide) (v := N % 86400 % 3600 / 60) (k := 60) (a := 0 + N / 86400 * 86400 + N % 86400 / 3600 * 3600) (partL ((N % 86400 % 60 : Nat) : Int) [83])
    (part_noC (by decide) (by decide) _) (by omega) (by omega)
  rw [show ((60 : Nat) : Int) = 60 from rfl] at h3
  rw [h3]
  have h4 := tk_part (c := 83) (by decide) (v := N % 86400 % 60) (k := 1) (a := 0 + N / 86400 * 86400 + N % 86400 / 3600 * 3600 + N % 86400 % 3600 / 60 * 60) [] rfl (by omega) (by omega)
  rw [show ((1 : Nat) : Int) = 1 from rfl, List.append_nil] at h4
  rw [h4]
  congr 2
  omega
theorem part_head45 {v : Nat} {d : UInt8} : True := trivial
theorem span_back {n : Int} (h : i64B n = true) : psN (spanL n) = n ∧ (qF (spanL n)).2.2 = false := by
  simp only [i64B, Bool.and_eq_true, decide_eq_true_eq] at h
  by_cases h0 : n = 0
  · subst h0
    exact ⟨by kernel_rfl, by kernel_rfl⟩
  have hb : (n == 0) = false := by simpa using h0
  have hN := take_all n.natAbs (by omega)
  have es : spanL n = sgn n ++ (80 :: (partL ((n.natAbs / 86400 : Nat) : Int) [68] ++ tailN (n.natAbs % 86400))) := by
    unfold spanL
    rw [hb, cond_false]
    simp [List.append_assoc]
  rw [es]
  generalize hX : partL ((n.natAbs / 86400 : Nat) : Int) [68] ++ tailN (n.natAbs % 86400) = X at *
  by_cases hn : n < 0
  · have e1 : sgn n = [45] := by unfold sgn; rw [decide_eq_true hn]; rfl
    rw [e1]
    show psN (45 :: 80 :: X) = n ∧ (qF (45 :: 80 :: X)).2.2 = false
    have hp : Lib.hasPrefix (45 :: 80 :: X) [45] = true := hp_yes 45 _
    have hq : qF (45 :: 80 :: X) = ([], (n.natAbs : Int), false) := by
      unfold qF q0 cpS
      rw [hp, cond_true]
      show tk (tk (tk (tr (tk (Lib.trimPrefix (80 :: X) [80], 0, false) [68] 86400)) [72] 3600) [77] 60) [83] 1 = _
      rw [tp_yes]; exact hN
    unfold psN
    rw [hp, hq, cond_true]
    refine ⟨?_, rfl⟩
    simp only [IntKind.wrap_i64]
    omega
  · have e1 : sgn n = [] := by unfold sgn; rw [decide_eq_false hn]; rfl
    rw [e1]
    show psN (80 :: X) = n ∧ (qF (80 :: X)).2.2 = false
    have hp : Lib.hasPrefix (80 :: X) [45] = false := hp_no (by simp)
    have hq : qF (80 :: X) = ([], (n.natAbs : Int), false) := by
      unfold qF q0 cpS
      rw [hp, cond_false, tp_yes]; exact hN
    unfold psN
    rw [hp, hq, cond_false]
    refine ⟨?_, rfl⟩
    simp only [IntKind.wrap_i64]
    omega
theorem span_len {n : Int} (h : i64B n = true) : (spanL n).length ≤ 200 := by
  obtain ⟨_, _, h3⟩ := abs_u h
  rw [span_eq]
  have p0 := part_len (u := n.natAbs / 86400) (by omega) [68]
  have p1 := part_len (u := n.natAbs % 86400 / 3600) (by omega) [72]
  have p2 := part_len (u := n.natAbs % 3600 / 60) (by omega) [77]
  have p3 := dd_len (u := n.natAbs % 60) (by omega)
  have q1 : (sgn n).length ≤ 1 := by unfold sgn; cases decide (n < 0) <;> simp
  have q2 : (if n.natAbs % 86400 / 3600 + n.natAbs % 3600 / 60 + n.natAbs % 60 > 0 ∨ n.natAbs = 0 then ([84] : List UInt8) else []).length ≤ 1 := by split <;> simp
  have q3 : (if n.natAbs % 60 > 0 ∨ n.natAbs = 0 then Lib.decDigits (n.natAbs % 60) ++ [83] else []).length ≤ 21 := by
    split
    · simp only [List.length_append, List.length_cons, List.length_nil]; omega
    · simp
  simp only [List.length_append, List.length_cons, List.length_nil] at *
  omega
/-! ### the laws -/
def Hsp : Handle := runS [⟨16, dat (sp0 true (.b true))⟩, ⟨25, dat (spI1 i64B fun n => .s (spanL n))⟩, ⟨26, dat (sp1 s32 fun s => .tuple [.i .i64 (psV s), .i .i64 (psE s)])⟩, ⟨27, dat (spI1 i64B fun n => .s (spanL n))⟩]
theorem hsp_ok : CallsOK (Γ true mx) Hsp := specs_ok (.cons (sp0_ok fun _ => c16) (.cons (spI1_ok c25) (.cons (sp1_ok fun s h => c26 s h) (.cons (spI1_ok c27) .nil))))
theorem r8 (lab : Lab) (n : Int) : evF (Γ true mx) Hsp lab 8 [.i .i64 n] [] =
  bif i64B n then (bif s32 (spanL n) then (bif i64B n then (bif (spanL n) == (spanL n) then (bif (psE (spanL n)) == 0 then (some (.b ((psV (spanL n)) == n), [])) else (some (.b false, []))) else (some (.b false, []))) else none) else none) else none := by kernel_rfl
theorem r9 (lab : Lab) (s : List UInt8) : evF (Γ true mx) Hsp lab 9 [.s s] [] =
  bif s32 s then (bif (psE s) != 0 then (bif (psE s) == 5 then (some (.b ((psV s) == 0), [])) else (some (.b false, []))) else (bif i64B (psV s) then (some (.b ((spanL (psV s)) == s), [])) else none)) else none := by kernel_rfl
theorem law8 (n : Int) (h : i64B n = true) : RetX (Γ true mx) 8 [.i .i64 n] [] (.b true) [] := by
  refine ret_goes (Γ := Γ true mx) hP hZ hsp_ok (by kernel_rfl) ⟨0, ?_⟩
  obtain ⟨h1, h2⟩ := span_back h
  have hok : psOk (spanL n) = true := by unfold psOk; rw [h1, h2]; simp
  have hl : s32 (spanL n) = true := decide_eq_true (by have := span_len h; omega)
  have e1 : psE (spanL n) = 0 := by unfold psE; rw [hok]; rfl
  have e2 : psV (spanL n) = n := by unfold psV; rw [hok, h1]; rfl
  rw [r8, h, hl, e1, e2]
  simp
theorem law9 (s : List UInt8) (h : s.length ≤ 1048576) : RetX (Γ true mx) 9 [.s s] [] (.b true) [] := by
  refine ret_goes (Γ := Γ true mx) hP hZ hsp_ok (by kernel_rfl) ⟨0, ?_⟩
  have hl : s32 s = true := decide_eq_true (by omega)
  rw [r9, hl]
  cases hok : psOk s with
  | false =>
    have e1 : psE s = 5 := by unfold psE; rw [hok]; rfl
    have e2 : psV s = 0 := by unfold psV; rw [hok]; rfl
    rw [e1, e2]; rfl
  | true =>
    have e1 : psE s = 0 := by unfold psE; rw [hok]; rfl
    have e2 : psV s = psN s := by unfold psV; rw [hok]; rfl
    have e3 : i64B (psN s) = true := by unfold psN; cases Lib.hasPrefix s [45] <;> exact i64_wrap _
    have e4 : (spanL (psN s) == s) = true := by
      unfold psOk at hok
      simp only [Bool.and_eq_true] at hok
      exact hok.2
    rw [e1, e2, e3, e4]; rfl
end Go.Proofs.YtlmdkclchjcapaaDoor.V
