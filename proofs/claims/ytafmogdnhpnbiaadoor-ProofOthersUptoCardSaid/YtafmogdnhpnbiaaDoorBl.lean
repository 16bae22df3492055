/- ShM, ShN, ShMc, ShO, ShR, ShS, ShT, ShU, ShV, ShW: texts of this claim, put together in build order by program. -/
import Derived.Test.YtafmogdnhpnbiaaDoorBk
/- The document's digest: contracts of its numbers: products, roots, primes; the factors are what the roots say. -/
namespace Go.Proofs.YtafmogdnhpnbiaaDoor.V
open Go
set_option maxRecDepth 100000
set_option linter.unusedVariables false
set_option linter.unusedSimpArgs false
theorem spRot_ok : SpecOK Γ ⟨38, dat spRot⟩ := dat_ok fun args r hr => by
  unfold spRot at hr
  split at hr
  · simp only [Option.some.injEq, Prod.mk.injEq] at hr
    obtain ⟨h1, rfl⟩ := hr
    unfold rtC at h1
    refine ret_goes (Γ := Γ) hP hZ none_ok (by kernel_rfl) ⟨0, ?_⟩
    rw [w38, h1, decide_eq_true (wu0 _)]; rfl
  · cases hr
/-! ### products -/
theorem u1_ex {d : D} (h : isU1 d = true) : ∃ n, d = .int .u64 n := by
  unfold isU1 at h
  split at h
  · exact ⟨_, rfl⟩
  · cases h
theorem uI_eq : ∀ {l : List D}, l.all isU1 = true → l = intD (unI l)
  | [], _ => rfl
  | d :: r, h => by
    have h : isU1 d = true ∧ r.all isU1 = true := by simpa using h
    obtain ⟨n, rfl⟩ := u1_ex h.1
    show D.int .u64 n :: r = D.int .u64 n :: intD (unI r)
    rw [← uI_eq h.2]
theorem intD_len (l : List Int) : (intD l).length = l.length := by unfold intD; simp
theorem unI_intD : ∀ l : List Int, unI (intD l) = l
  | [] => rfl
  | x :: r => by
    show x :: unI (intD r) = _
    rw [unI_intD r]
theorem intD_u1 : ∀ l : List Int, (intD l).all isU1 = true
  | [] => rfl
  | x :: r => by
    show (true && (intD r).all isU1) = true
    rw [intD_u1 r]; rfl
theorem tmIn_len (x : Int) (i : Nat) : ∀ (b : List Int) (k : Nat) (c : Int) (L : List Int), (tmIn x i b k c L).1.length = L.length
  | [], _, _, _ => rfl
  | y :: r, k, c, L => by rw [tmIn, tmIn_len x i r]; simp
theorem tmOut_len (b : List Int) : ∀ (a : List Int) (i : Nat) (L : List Int), (tmOut b a i L).length = L.length
  | [], _, _ => rfl
  | x :: r, i, L => by rw [tmOut, tmOut_len b r]; simp [tmIn_len]
theorem timesI_len (a b : List Int) : (timesI a b).length = a.length + b.length := by unfold timesI; rw [tmOut_len]; simp
theorem int_get {L : List Int} {j : Nat} (h : j < L.length) : (intD L)[j]? = some (D.int .u64 (L.getD j 0)) := by
  unfold intD
  rw [List.getElem?_map, List.getElem?_eq_getElem h, List.getD_eq_getElem?_getD, List.getElem?_eq_getElem h]
  rfl
theorem int_set (L : List Int) (j : Nat) (x : Int) : (intD L).set j (D.int .u64 x) = intD (L.set j x) := by unfold intD; simp [List.map_set]
theorem c_lt {i n : Nat} (h : i < n) : (decide ((0 : Int) ≤ (i : Int)) && decide ((i : Int) < (n : Int))) = true := by rw [decide_eq_true (by omega), decide_eq_true (by omega)]; rfl
theorem int_mid (pre : List Int) (y : Int) (r : List Int) : (intD (pre ++ y :: r))[((pre.length : Nat) : Int).toNat]? = some (D.int .u64 y) := by
  rw [Int.toNat_natCast]; unfold intD; simp
section
variable {r : AV × Objs}
theorem g44_7 (pa : List Int) (x : Int) (ra B : List Int) (hA : (pa ++ x :: ra).length ≤ 1000) (hB : B.length ≤ 1000) : ∀ (rest pre : List Int) (c : Int) (L : List Int), B = pre ++ rest → L.length = (pa ++ x :: ra).length + B.length →
    Goes Γ (runS []) 44 3 ⟨[(0, .sl 57 .any (intD (pa ++ x :: ra))), (1, .sl 57 .any (intD B)), (5, .ref 57 0), (6, .i .i64 ((pa.length + 1 : Nat) : Int))], [some (.arr 57 (intD ((tmIn x pa.length rest pre.length c L).1.set (pa.length + B.length) (IntKind.wrap .u64 ((tmIn x pa.length rest pre.length c L).1.getD (pa.length + B.length) 0 + (tmIn x pa.length rest pre.length c L).2)))) false)]⟩ r →
    Goes Γ (runS []) 44 7 ⟨[(0, .sl 57 .any (intD (pa ++ x :: ra))), (1, .sl 57 .any (intD B)), (5, .ref 57 0), (6, .i .i64 (pa.length : Int)), (7, .i .u64 c), (8, .i .i64 (pre.length : Int))], [some (.arr 57 (intD L) false)]⟩ r
  | [], pre, c, L, h1, h2, h => by
    rw [List.append_nil] at h1
    subst h1
    have hp : pa.length < (pa ++ x :: ra).length := by simp
    have w1 : IntKind.wrap .i64 ((pa.length : Int) + 1) = ((pa.length + 1 : Nat) : Int) := by rw [wrapI (by omega) (by omega)]; omega
    have w2 : IntKind.wrap .i64 ((pa.length : Int) + ((intD B).length : Int)) = ((pa.length + B.length : Nat) : Int) := by rw [intD_len, wrapI (by omega) (by omega)]; omega
    refine Goes.er (er_of (fun k => w44_7a _ _ _ _ _ _ _) (er_f (decide_eq_false (by rw [intD_len]; omega)) ?_))
    rw [w1, w2]
    simp only [Int.toNat_natCast]
    refine er_t (c_lt (by rw [intD_len]; omega)) (er_get (int_get (by omega)) (er_u (er_t (c_lt (by rw [intD_len]; omega)) (er_get (int_get (by omega)) (er_lab ?_)))))
    rw [int_set]
    exact h
  | y :: rest, pre, c, L, h1, h2, h => by
    have hp : pa.length < (pa ++ x :: ra).length := by simp
    have hl : B.length = pre.length + (rest.length + 1) := by rw [h1]; simp
    have w1 : IntKind.wrap .i64 ((pre.length : Int) + 1) = ((pre.length + 1 : Nat) : Int) := by rw [wrapI (by omega) (by omega)]; omega
    have w2 : IntKind.wrap .i64 ((pa.length : Int) + (pre.length : Int)) = ((pa.length + pre.length : Nat) : Int) := by rw [wrapI (by omega) (by omega)]; omega
    refine Goes.er (er_of (fun k => w44_7a _ _ _ _ _ _ _) (er_t (decide_eq_true (by rw [intD_len]; omega)) (er_idx (by omega) (int_mid _ _ _) (er_u (er_idx (y := D.int .u64 y) (by omega) (by rw [h1]; exact int_mid _ _ _) (er_u ?_))))))
    rw [w1, w2]
    simp only [Int.toNat_natCast]
    refine er_t (c_lt (by rw [intD_len]; omega)) (er_get (int_get (by omega)) (er_u (er_t (c_lt (by rw [intD_len]; omega)) (er_get (int_get (by omega)) (er_lab ?_)))))
    rw [int_set]
    have ih := g44_7 pa x ra B hA hB rest (pre ++ [y]) (shrV .u64 (mulT x y (L.getD (pa.length + pre.length) 0) c) 32) (L.set (pa.length + pre.length) (lowT (mulT x y (L.getD (pa.length + pre.length) 0) c))) (by rw [h1]; simp) (by rw [List.length_set]; exact h2)
    rw [List.length_append, List.length_singleton] at ih
    exact ih h
theorem g44_3 (A B : List Int) (hA : A.length ≤ 1000) (hB : B.length ≤ 1000) : ∀ (ra pa : List Int) (L : List Int), A = pa ++ ra → L.length = A.length + B.length →
    Goes Γ (runS []) 44 3 ⟨[(0, .sl 57 .any (intD A)), (1, .sl 57 .any (intD B)), (5, .ref 57 0), (6, .i .i64 (pa.length : Int))], [some (.arr 57 (intD L) false)]⟩ (.sl 57 .any (intD (tmOut B ra pa.length L)), [])
  | [], pa, L, h1, h2 => by
    rw [List.append_nil] at h1
    subst h1
    exact Goes.er (er_of (fun k => w44_3a _ _ _ _ _) (er_f (decide_eq_false (by rw [intD_len]; omega)) er_some))
  | x :: ra, pa, L, h1, h2 => by
    have hl : A.length = pa.length + (ra.length + 1) := by rw [h1]; simp
    refine Goes.er (er_of (fun k => w44_3a _ _ _ _ _) (er_t (decide_eq_true (by rw [intD_len]; omega)) (er_lab ?_)))
    subst h1
    refine g44_7 pa x ra B hA hB B [] 0 L rfl h2 ?_
    have ih := g44_3 (pa ++ x :: ra) B hA hB ra (pa ++ [x]) ((tmIn x pa.length B 0 0 L).1.set (pa.length + B.length) (IntKind.wrap .u64 ((tmIn x pa.length B 0 0 L).1.getD (pa.length + B.length) 0 + (tmIn x pa.length B 0 0 L).2))) (by simp) (by rw [List.length_set, tmIn_len]; exact h2)
    rw [List.length_append, List.length_singleton] at ih
    exact ih
end
theorem rep_int (n : Nat) : List.replicate n (D.int .u64 0) = intD (List.replicate n 0) := by unfold intD; simp
theorem spTimes_ok : SpecOK Γ ⟨44, dat spTimes⟩ := dat_ok fun args r hr => by
  unfold spTimes at hr
  split at hr
  · rename_i c1 a c2 b
    simp only [Option.some.injEq, Prod.mk.injEq] at hr
    obtain ⟨h1, rfl⟩ := hr
    unfold tmC at h1
    simp only [Bool.and_eq_true, decide_eq_true_eq] at h1
    obtain ⟨⟨ha, hb⟩, hla, hlb⟩ := h1
    have ea := uI_eq ha
    have eb := uI_eq hb
    have la : (unI a).length = a.length := by rw [← intD_len, ← ea]
    have lb : (unI b).length = b.length := by rw [← intD_len, ← eb]
    obtain ⟨q, hq⟩ := g44_3 (unI a) (unI b) (by omega) (by omega) (unI a) [] (List.replicate ((unI a).length + (unI b).length) 0) rfl (by simp)
    have hr : RetX Γ 44 [.sl 57 .any a, .sl 57 .any b] [] (.sl 57 .any (tmD a b)) [] := by
      refine ret_goes (Γ := Γ) hP hZ none_ok (by kernel_rfl) ⟨q, ?_⟩
      have w1 : IntKind.wrap .i64 ((a.length : Int) + (b.length : Int)) = ((a.length + b.length : Nat) : Int) := by rw [wrapI (by omega) (by omega)]; omega
      rw [w44, w1, decide_eq_true (by omega), decide_eq_true (by omega), Int.toNat_natCast]
      have hroom : roomB (a.length + b.length) 8 = true := by
        unfold roomB
        simp only [Bool.and_eq_true, decide_eq_true_eq]
        exact ⟨rfl, by omega⟩
      rw [hroom, rep_int, ← la, ← lb]
      rw [← ea, ← eb] at hq
      exact hq
    exact hr.args (.cons (WkA.sl _ _ _) (.cons (WkA.sl _ _ _) .nil))
  · cases hr
/-! ### whether a number's power is above a prime -/
theorem W37_ok : CallsOK Γ W37 := specs_ok (.cons spTimes_ok .nil)
theorem g37 (p : Int) (pl : Nat) (hpl : pl ≤ 10) : ∀ (rest pre : List Int) (w : Int) (rr : Bool), (pre ++ rest).length ≤ 1000 →
    Goes Γ W37 37 10 ⟨[(1, .i .u64 p), (8, .sl 57 .any (intD (pre ++ rest))), (9, .i .i64 (pl : Int)), (10, .i .u64 w), (11, .b rr), (12, .i .i64 (pre.length : Int))], []⟩ (.b (abL p pl rest pre.length w rr), [])
  | [], pre, w, rr, h => by
    refine Goes.er (er_of (fun k => w37_10a _ _ _ _ _ _ _) (er_f (decide_eq_false (by rw [intD_len, List.append_nil]; omega)) ?_))
    unfold abL
    cases decide (w > p) with
    | true => exact er_some
    | false =>
      cases w == p with
      | true => exact er_some
      | false => exact er_some
  | x :: rest, pre, w, rr, h => by
    have hl : (pre ++ x :: rest).length = pre.length + (rest.length + 1) := by simp
    have w1 : IntKind.wrap .i64 ((pre.length : Int) + 1) = ((pre ++ [x]).length : Int) := by rw [List.length_append, List.length_singleton, wrapI (by omega) (by omega)]; omega
    have ih := fun w rr => g37 p pl hpl rest (pre ++ [x]) w rr (by simpa using h)
    simp only [List.append_assoc, List.singleton_append] at ih
    refine Goes.er (er_of (fun k => w37_10a _ _ _ _ _ _ _) (er_t (decide_eq_true (by rw [intD_len]; omega)) ?_))
    rw [w1]
    unfold abL
    have e1 : (pre ++ [x]).length = pre.length + 1 := by simp
    by_cases c1 : pre.length < pl
    · rw [decide_eq_true c1, decide_eq_true (by omega : (pre.length : Int) < (pl : Int))]
      rw [cond_true, ← e1]
      cases rr with
      | true => exact er_lab (ih w true)
      | false => exact er_idx (y := D.int .u64 x) (by omega) (int_mid _ _ _) (er_u (er_lab (ih w (x != 0))))
    · rw [decide_eq_false c1, decide_eq_false (by omega : ¬ (pre.length : Int) < (pl : Int))]
      by_cases c2 : pre.length = pl
      · rw [decide_eq_true c2, show ((pre.length : Int) == (pl : Int)) = true by rw [beq_iff_eq]; omega, cond_false, cond_true, ← e1]
        exact er_f rfl (er_t rfl (er_idx (y := D.int .u64 x) (by omega) (int_mid _ _ _) (er_u (er_lab (ih x rr)))))
      · rw [decide_eq_false c2, show ((pre.length : Int) == (pl : Int)) = false by rw [beq_eq_false_iff_ne]; omega, cond_false, cond_false, ← e1]
        refine er_f rfl (er_f rfl (er_idx (y := D.int .u64 x) (by omega) (int_mid _ _ _) (er_u ?_)))
        cases x != 0 with
        | true => exact er_some
        | false => exact er_lab (ih w rr)
theorem tm_ok (a b : List Int) (ha : a.length ≤ 1000) (hb : b.length ≤ 1000) : tmC (intD a) (intD b) = true := by
  unfold tmC
  rw [intD_u1, intD_u1, intD_len, intD_len, decide_eq_true ha, decide_eq_true hb]; rfl
theorem tm_eq (a b : List Int) : tmD (intD a) (intD b) = intD (timesI a b) := by
  unfold tmD
  rw [unI_intD, unI_intD]
theorem w37h (lab : Lab) (y : Int) (p : Int) (t : Bool) : evF Γ W37 lab 37 [.i .u64 y, .i .u64 p, .b t] [] =
  bif tmC (intD (halves y)) (intD (halves y)) then (bif t then (bif tmC (tmD (intD (halves y)) (intD (halves y))) (intD (halves y)) then (lab (todoAt Γ 37 10) ⟨[(1, .i .u64 p), (8, .sl 57 .any (tmD (tmD (intD (halves y)) (intD (halves y))) (intD (halves y)))), (9, .i .i64 3), (10, .i .u64 0), (11, .b false), (12, .i .i64 0)], []⟩) else none)
    else (lab (todoAt Γ 37 10) ⟨[(1, .i .u64 p), (8, .sl 57 .any (tmD (intD (halves y)) (intD (halves y)))), (9, .i .i64 2), (10, .i .u64 0), (11, .b false), (12, .i .i64 0)], []⟩)) else none := by kernel_rfl
theorem spAbove_ok : SpecOK Γ ⟨37, dat spAbove⟩ := dat_ok fun args r hr => by
  unfold spAbove at hr
  split at hr
  · rename_i y p t
    simp only [Option.some.injEq, Prod.mk.injEq] at hr
    obtain ⟨_, rfl⟩ := hr
    have : EXR (.b (abI y p t), []) fun q => evF Γ W37 (L Γ W37 37 q) 37 [.i .u64 y, .i .u64 p, .b t] [] := by
      have hl : (halves y).length = 2 := rfl
      refine er_of (fun q => w37h _ _ _ _) ?_
      generalize hh : halves y = H at hl
      have l2 := timesI_len H H
      have l3 := timesI_len (timesI H H) H
      rw [tm_eq H H, tm_eq (timesI H H) H, tm_ok H H (by omega) (by omega), tm_ok (timesI H H) H (by omega) (by omega)]
      unfold abI
      rw [hh]
      refine er_t rfl ?_
      cases t with
      | true => exact er_t rfl (er_t rfl (er_lab (g37 p 3 (by omega) (timesI (timesI H H) H) [] 0 false (by rw [List.nil_append]; omega))))
      | false => exact er_f rfl (er_lab (g37 p 2 (by omega) (timesI H H) [] 0 false (by rw [List.nil_append]; omega)))
    obtain ⟨k, hk⟩ := this
    exact ret_goes (Γ := Γ) hP hZ W37_ok (by kernel_rfl) ⟨k, hk⟩
  · cases hr
/-! ### roots -/
theorem W29_ok : CallsOK Γ W29 := specs_ok (.cons spAbove_ok .nil)
theorem g29 (p : Int) (t : Bool) : ∀ (b : Nat) (x : Int), b ≤ 40 →
    Goes Γ W29 29 3 ⟨[(0, .i .u64 p), (1, .b t), (5, .i .u64 x), (6, .i .i64 ((b : Int) - 1))], []⟩ (.i .u32 (roL p t b x), [])
  | 0, x, h => Goes.er (er_of (fun k => w29_3a _ _ _ _ _) (er_f (decide_eq_false (by omega)) er_some))
  | b + 1, x, h => by
    have w1 : ((b + 1 : Nat) : Int) - 1 = (b : Int) := by omega
    have w2 : IntKind.wrap .i64 ((b : Int) - 1) = (b : Int) - 1 := wrapI (by omega) (by omega)
    have w3 : IntKind.wrap .u64 (b : Int) = (b : Int) := wrapU (by omega) (by omega)
    rw [w1]
    refine Goes.er (er_of (fun k => w29_3a _ _ _ _ _) ?_)
    rw [w2, w3]
    refine er_t (decide_eq_true (by omega)) (er_t (decide_eq_true (by omega)) ?_)
    rw [roL]
    unfold roY
    cases !(abI (IntKind.wrap .u64 (x + shlV .u64 1 (b : Int))) p t) with
    | true => exact er_lab (g29 p t b _ (by omega))
    | false => exact er_lab (g29 p t b _ (by omega))
theorem spRoots_ok : SpecOK Γ ⟨29, dat spRoots⟩ := dat_ok fun args r hr => by
  unfold spRoots at hr
  split at hr
  · rename_i p t
    simp only [Option.some.injEq, Prod.mk.injEq] at hr
    obtain ⟨_, rfl⟩ := hr
    obtain ⟨q, hq⟩ := g29 p t 40 0 (by omega)
    refine ret_goes (Γ := Γ) hP hZ W29_ok (by kernel_rfl) ⟨q, ?_⟩
    rw [w29]
    exact hq
  · cases hr
/-! ### primes -/
def prIn (n : Int) : List Int → Bool → Bool
  | [], b => b
  | x :: r, b => prIn n r (bif b then (Int.tmod n x != 0) else false)
def prOut : Nat → Int → List Int → Option (List Int)
  | 0, _, _ => none
  | k + 1, n, L => bif decide ((L.length : Int) < 64) then (bif prIn n L true then prOut k (n + 1) (L ++ [n]) else prOut k (n + 1) L) else some L
theorem prOut_eq : prOut 400 2 [] = some P64 := by kernel_rfl
theorem g28_7 {r : AV × Objs} (n : Int) (M : List Int) (hM : ∀ x ∈ M, x ≠ 0) (hm : M.length ≤ 1000) : ∀ (rest pre : List Int) (b : Bool), M = pre ++ rest →
    EXR r (fun k => bif prIn n rest b then (L Γ (runS []) 28 k (todoAt Γ 28 3) ⟨[(0, .i .i64 64), (3, .ref 57 0), (4, .i .u64 (IntKind.wrap .u64 (n + 1)))], [some (.arr 57 (intD M ++ [D.int .u64 n]) false)]⟩) else (L Γ (runS []) 28 k (todoAt Γ 28 3) ⟨[(0, .i .i64 64), (3, .ref 57 0), (4, .i .u64 (IntKind.wrap .u64 (n + 1)))], [some (.arr 57 (intD M) false)]⟩)) →
    Goes Γ (runS []) 28 7 ⟨[(0, .i .i64 64), (3, .ref 57 0), (4, .i .u64 n), (5, .b b), (6, .i .i64 (pre.length : Int))], [some (.arr 57 (intD M) false)]⟩ r
  | [], pre, b, h1, h => by
    rw [List.append_nil] at h1
    subst h1
    refine Goes.er (er_of (fun k => w28_7a _ _ _ _ _ _) (er_f (decide_eq_false (by rw [intD_len]; omega)) ?_))
    have hroom : roomB ((intD M).length + 1) 8 = true := by
      rw [intD_len]
      unfold roomB
      simp only [Bool.and_eq_true, decide_eq_true_eq]
      exact ⟨rfl, by omega⟩
    rw [hroom]
    exact h
  | x :: rest, pre, b, h1, h => by
    have hl : M.length = pre.length + (rest.length + 1) := by rw [h1]; simp
    have hx : x ≠ 0 := hM x (by rw [h1]; simp)
    have w1 : IntKind.wrap .i64 ((pre.length : Int) + 1) = ((pre ++ [x]).length : Int) := by rw [List.length_append, List.length_singleton, wrapI (by omega) (by omega)]; omega
    refine Goes.er (er_of (fun k => w28_7a _ _ _ _ _ _) (er_t (decide_eq_true (by rw [intD_len]; omega)) ?_))
    rw [w1]
    have ih := fun b' => g28_7 (r := r) n M hM hm rest (pre ++ [x]) b' (by rw [h1]; simp)
    cases b with
    | true =>
      refine er_t rfl (er_t (c_lt (by rw [intD_len]; omega)) (er_get (y := D.int .u64 x) (by rw [h1]; exact int_mid _ _ _) (er_u (er_f (by rw [beq_eq_false_iff_ne]; exact hx) (er_lab ?_)))))
      exact ih _ h
    | false => exact er_f rfl (er_lab (ih _ h))
theorem g28_3 {R : List Int} : ∀ (k : Nat) (n : Int) (M : List Int), 1 ≤ n → n + (k : Int) ≤ 100000 → (∀ x ∈ M, x ≠ 0) → prOut k n M = some R →
    Goes Γ (runS []) 28 3 ⟨[(0, .i .i64 64), (3, .ref 57 0), (4, .i .u64 n)], [some (.arr 57 (intD M) false)]⟩ (.sl 57 .any (intD R), [])
  | 0, n, M, h1, h2, h3, h => by cases h
  | k + 1, n, M, h1, h2, h3, h => by
    rw [prOut] at h
    have w1 : IntKind.wrap .u64 (n + 1) = n + 1 := wrapU (by omega) (by omega)
    refine Goes.er (er_of (fun k => w28_3a _ _ _ _) ?_)
    rw [intD_len]
    by_cases c : ((M.length : Int) < 64)
    · rw [decide_eq_true c, cond_true] at h
      refine er_t (decide_eq_true c) (er_lab (g28_7 n M h3 (by omega) M [] true rfl ?_))
      rw [w1]
      refine er_if (fun c2 => ?_) (fun c2 => ?_)
      · rw [c2, cond_true] at h
        have := g28_3 k (n + 1) (M ++ [n]) (by omega) (by omega) (fun x hx => by
          rcases List.mem_append.mp hx with hx | hx
          · exact h3 x hx
          · rw [List.mem_singleton.mp hx]; omega) h
        refine er_lab ?_
        rw [show intD M ++ [D.int .u64 n] = intD (M ++ [n]) by unfold intD; simp]
        exact this
      · rw [c2, cond_false] at h
        exact er_lab (g28_3 k (n + 1) M (by omega) (by omega) h3 h)
    · rw [decide_eq_false c, cond_false] at h
      refine er_f (decide_eq_false c) (er_is ?_)
      rw [Option.some.inj h]
theorem spPrimes_ok : SpecOK Γ ⟨28, dat spPrimes⟩ := dat_ok fun args r hr => by
  unfold spPrimes at hr
  split at hr
  · rename_i n
    simp only [Option.some.injEq, Prod.mk.injEq] at hr
    obtain ⟨h1, rfl⟩ := hr
    unfold prC at h1
    rw [beq_iff_eq] at h1
    subst h1
    obtain ⟨q, hq⟩ := g28_3 400 2 [] (by omega) (by omega) (fun x hx => by cases hx) prOut_eq
    refine ret_goes (Γ := Γ) hP hZ none_ok (by kernel_rfl) ⟨q, ?_⟩
    rw [w28]
    exact hq
  · cases hr
end Go.Proofs.YtafmogdnhpnbiaaDoor.V

/- The document's digest: the contract of a block. -/
namespace Go.Proofs.YtafmogdnhpnbiaaDoor.V
open Go
set_option maxRecDepth 100000
set_option linter.unusedVariables false
set_option linter.unusedSimpArgs false
theorem wrap32 (n : Int) : IntKind.wrap .u32 n = n % 4294967296 := by simp [IntKind.wrap, IntKind.bits, IntKind.signed]
theorem addU_comm (a b : Int) : addU a b = addU b a := by unfold addU; rw [Int.add_comm]
theorem orU_comm (a b : Int) : orU a b = orU b a := by unfold orU; rw [BitVec.or_comm]
theorem rot_turn (w a n : Int) (h1 : k31 n = IntKind.wrap .u64 (32 - a)) (h2 : IntKind.wrap .u64 (32 - k31 n) = a) : rotU w a = turnU w n := by
  unfold rotU turnU
  rw [h2, h1, orU_comm]
theorem r6 (w : Int) : rotU w 6 = turnU w (IntKind.wrap .i64 (0 - 6)) := rot_turn _ _ _ (by kernel_rfl) (by kernel_rfl)
theorem r11 (w : Int) : rotU w 11 = turnU w (IntKind.wrap .i64 (0 - 11)) := rot_turn _ _ _ (by kernel_rfl) (by kernel_rfl)
theorem r25 (w : Int) : rotU w 25 = turnU w (IntKind.wrap .i64 (0 - 25)) := rot_turn _ _ _ (by kernel_rfl) (by kernel_rfl)
theorem r2 (w : Int) : rotU w 2 = turnU w (IntKind.wrap .i64 (0 - 2)) := rot_turn _ _ _ (by kernel_rfl) (by kernel_rfl)
theorem r13 (w : Int) : rotU w 13 = turnU w (IntKind.wrap .i64 (0 - 13)) := rot_turn _ _ _ (by kernel_rfl) (by kernel_rfl)
theorem r22 (w : Int) : rotU w 22 = turnU w (IntKind.wrap .i64 (0 - 22)) := rot_turn _ _ _ (by kernel_rfl) (by kernel_rfl)
theorem r7 (w : Int) : rotU w 7 = turnU w (IntKind.wrap .i64 (0 - 7)) := rot_turn _ _ _ (by kernel_rfl) (by kernel_rfl)
theorem r18 (w : Int) : rotU w 18 = turnU w (IntKind.wrap .i64 (0 - 18)) := rot_turn _ _ _ (by kernel_rfl) (by kernel_rfl)
theorem r17 (w : Int) : rotU w 17 = turnU w (IntKind.wrap .i64 (0 - 17)) := rot_turn _ _ _ (by kernel_rfl) (by kernel_rfl)
theorem r19 (w : Int) : rotU w 19 = turnU w (IntKind.wrap .i64 (0 - 19)) := rot_turn _ _ _ (by kernel_rfl) (by kernel_rfl)
theorem sp_e (w : Int) : xorU (xorU (rotU w 6) (rotU w 11)) (rotU w 25) = spreadU w 6 11 25 := by rw [r6, r11, r25]; rfl
theorem sp_a (w : Int) : xorU (xorU (rotU w 2) (rotU w 13)) (rotU w 22) = spreadU w 2 13 22 := by rw [r2, r13, r22]; rfl
theorem sp_0 (w : Int) : xorU (xorU (rotU w 7) (rotU w 18)) (shrV .u32 w 3) = spreadU w 7 18 (-3) := by rw [r7, r18]; rfl
theorem sp_1 (w : Int) : xorU (xorU (rotU w 17) (rotU w 19)) (shrV .u32 w 10) = spreadU w 17 19 (-10) := by rw [r17, r19]; rfl
theorem nx_eq (P : List Int) : addU (addU (addU (P.getD (P.length - 16) 0) (spreadU (P.getD (P.length - 15) 0) 7 18 (-3))) (P.getD (P.length - 7) 0)) (spreadU (P.getD (P.length - 2) 0) 17 19 (-10)) = nx P := by
  unfold nx
  generalize P.getD (P.length - 16) 0 = a
  generalize spreadU (P.getD (P.length - 15) 0) 7 18 (-3) = b
  generalize P.getD (P.length - 7) 0 = c
  generalize spreadU (P.getD (P.length - 2) 0) 17 19 (-10) = d
  unfold addU
  simp only [wrap32]
  omega
/-! ### four bytes -/
theorem or_add (w x y k : Nat) (hy : y < 2 ^ k) (h : 2 ^ k * x + y < 2 ^ w) : (BitVec.ofInt w ((2 ^ k * x : Nat) : Int) ||| BitVec.ofInt w (y : Int)).toNat = 2 ^ k * x + y := by
  have h1 : 2 ^ k * x < 2 ^ w := by omega
  have h2 : y < 2 ^ w := by omega
  rw [BitVec.toNat_or, BitVec.ofInt_natCast, BitVec.ofInt_natCast, BitVec.toNat_ofNat, BitVec.toNat_ofNat, Nat.mod_eq_of_lt h1, Nat.mod_eq_of_lt h2, Nat.two_pow_add_eq_or_of_lt hy]
theorem get_step (n : Nat) (b : UInt8) (h : n < 4294967296) : IntKind.wrap .u64 ((BitVec.ofInt 64 (shlV .u64 (n : Int) 8) ||| BitVec.ofInt 64 (IntKind.wrap .u64 (b.toNat : Int))).toNat : Int) = ((256 * n + b.toNat : Nat) : Int) := by
  have hb := b.toNat_lt
  have e1 : shlV .u64 (n : Int) 8 = ((2 ^ 8 * n : Nat) : Int) := by
    show IntKind.wrap .u64 ((n : Int) * 256) = _
    rw [wrapU (by omega) (by omega)]; omega
  rw [e1, wrapU (n := (b.toNat : Int)) (by omega) (by omega), or_add 64 n b.toNat 8 (by omega) (by omega), wrapU (by omega) (by omega)]
theorem get4_eq (a b c d : UInt8) : get4 [a, b, c, d] = ((256 * (256 * (256 * a.toNat + b.toNat) + c.toNat) + d.toNat : Nat) : Int) := by
  have ha := a.toNat_lt
  have hb := b.toNat_lt
  have hc := c.toNat_lt
  have hd := d.toNat_lt
  unfold get4
  simp only [List.foldl_cons, List.foldl_nil]
  have e0 := get_step 0 a (by omega)
  rw [show (((0 : Nat) : Int)) = 0 from rfl] at e0
  rw [e0, get_step _ b (by omega), get_step _ c (by omega), get_step _ d (by omega)]
  omega
theorem or32 (x y k : Nat) (hy : y < 2 ^ k) (h : 2 ^ k * x + y < 4294967296) : orU ((2 ^ k * x : Nat) : Int) (y : Int) = ((2 ^ k * x + y : Nat) : Int) := by
  unfold orU
  rw [or_add 32 x y k hy (by omega), wrap32]
  omega
theorem w8 (a : UInt8) : IntKind.wrap .u32 (a.toNat : Int) = (a.toNat : Int) := by
  have := a.toNat_lt
  rw [wrap32]; omega
theorem sh32 (a : UInt8) (k : Nat) (hk : k ≤ 24) : shlV .u32 (a.toNat : Int) (k : Int) = ((2 ^ k * a.toNat : Nat) : Int) := by
  have := a.toNat_lt
  have h1 : 2 ^ k ≤ 2 ^ 24 := Nat.pow_le_pow_right (by omega) hk
  have h2 : 2 ^ k * a.toNat ≤ 2 ^ 24 * 255 := Nat.mul_le_mul h1 (by omega)
  unfold shlV
  have h3 : min (k : Int).toNat IntKind.u32.bits = k := by
    show min k 32 = k
    omega
  rw [h3, wrap32]
  have h4 : ((a.toNat : Int) * 2 ^ k) = ((2 ^ k * a.toNat : Nat) : Int) := by
    rw [Nat.mul_comm]; push_cast; rfl
  rw [h4]; omega
theorem word_eq (a b c d : UInt8) : orU (orU (orU (shlV .u32 (IntKind.wrap .u32 (a.toNat : Int)) 24) (shlV .u32 (IntKind.wrap .u32 (b.toNat : Int)) 16)) (shlV .u32 (IntKind.wrap .u32 (c.toNat : Int)) 8)) (IntKind.wrap .u32 (d.toNat : Int)) = IntKind.wrap .u32 (get4 [a, b, c, d]) := by
  have ha := a.toNat_lt
  have hb := b.toNat_lt
  have hc := c.toNat_lt
  have hd := d.toNat_lt
  have s24 := sh32 a 24 (by omega)
  have s16 := sh32 b 16 (by omega)
  have s8 := sh32 c 8 (by omega)
  rw [show ((24 : Nat) : Int) = 24 from rfl] at s24
  rw [show ((16 : Nat) : Int) = 16 from rfl] at s16
  rw [show ((8 : Nat) : Int) = 8 from rfl] at s8
  rw [w8, w8, w8, w8, s24, s16, s8, get4_eq, wrap32]
  rw [or32 a.toNat (2 ^ 16 * b.toNat) 24 (by omega) (by omega)]
  rw [show 2 ^ 24 * a.toNat + 2 ^ 16 * b.toNat = 2 ^ 16 * (2 ^ 8 * a.toNat + b.toNat) by omega, or32 _ (2 ^ 8 * c.toNat) 16 (by omega) (by omega)]
  rw [show 2 ^ 16 * (2 ^ 8 * a.toNat + b.toNat) + 2 ^ 8 * c.toNat = 2 ^ 8 * (2 ^ 8 * (2 ^ 8 * a.toNat + b.toNat) + c.toNat) by omega, or32 _ d.toNat 8 (by omega) (by omega)]
  omega
theorem take4 {t : Tx} {j : Nat} (h : j + 4 ≤ t.length) : ∃ a b c d, (t.drop j).take 4 = [a, b, c, d] ∧ t[j]? = some a ∧ t[j + 1]? = some b ∧ t[j + 2]? = some c ∧ t[j + 3]? = some d := by
  refine ⟨t[j], t[j + 1], t[j + 2], t[j + 3], ?_, List.getElem?_eq_getElem _, List.getElem?_eq_getElem _, List.getElem?_eq_getElem _, List.getElem?_eq_getElem _⟩
  rw [List.drop_eq_getElem_cons (by omega), List.drop_eq_getElem_cons (by omega), List.drop_eq_getElem_cons (by omega), List.drop_eq_getElem_cons (by omega)]
  rfl
theorem by_get {t : Tx} {j : Nat} {a : UInt8} (h : t[j]? = some a) : (bytesD t)[((j : Nat) : Int).toNat]? = some (D.int .u8 (a.toNat : Int)) := by
  rw [Int.toNat_natCast]; unfold bytesD; rw [List.getElem?_map, h]; rfl
/-! ### a block -/
theorem W30_ok : CallsOK Γ W30 := specs_ok (.cons spRot_ok .nil)
theorem u2_eq : ∀ {l : List D}, l.all isU2 = true → l = (unI l).map (D.int .u32)
  | [], _ => rfl
  | d :: r, h => by
    have h : isU2 d = true ∧ r.all isU2 = true := by simpa using h
    have h1 : ∃ n, d = .int .u32 n := by
      have := h.1
      unfold isU2 at this
      split at this
      · exact ⟨_, rfl⟩
      · cases this
    obtain ⟨n, rfl⟩ := h1
    show D.int .u32 n :: r = D.int .u32 n :: (unI r).map (D.int .u32)
    rw [← u2_eq h.2]
def rndR (k w : Int) (v : W8) : W8 := ⟨addU (addU (addU (addU (addU v.h (xorU (xorU (rotU v.e 6) (rotU v.e 11)) (rotU v.e 25))) (xorU (andU v.e v.f) (andU (xorU 4294967295 v.e) v.g))) k) w) (addU (xorU (xorU (rotU v.a 2) (rotU v.a 13)) (rotU v.a 22)) (xorU (xorU (andU v.a v.b) (andU v.a v.c)) (andU v.b v.c))), v.a, v.b, v.c,
  addU v.d (addU (addU (addU (addU v.h (xorU (xorU (rotU v.e 6) (rotU v.e 11)) (rotU v.e 25))) (xorU (andU v.e v.f) (andU (xorU 4294967295 v.e) v.g))) k) w), v.e, v.f, v.g⟩
theorem rndR_eq (k w : Int) (v : W8) : rndR k w v = rnd k w v := by
  unfold rndR
  rw [sp_e, sp_a]; rfl
theorem w30_14v (lab : Lab) (l1 l2 : List D) (n3 : Int) (l4 : List D) (v : W8) : evL Γ W30 lab 30 14 ⟨[(0, .sl 55 .any l1), (1, .sl 55 .any l2), (7, .ref 55 0), (12, .ref 55 1), (13, .i .i64 n3)], [some (.arr 55 l4 false), some (.arr 55 v.l false)]⟩ =
  bif decide (n3 < 64) then (idx l2 n3 fun y22 => dInt .u32 y22 fun n23 => bif decide ((0:Int) ≤ n3) && decide (n3 < (l4.length : Int)) then (lGet l4 (Int.toNat n3) fun y24 => dInt .u32 y24 fun n25 => lab (todoAt Γ 30 14) ⟨[(0, .sl 55 .any l1), (1, .sl 55 .any l2), (7, .ref 55 0), (12, .ref 55 1), (13, .i .i64 (IntKind.wrap .i64 (n3 + 1)))], [some (.arr 55 l4 false), some (.arr 55 (rndR n23 n25 v).l false)]⟩) else none)
  else (lab (todoAt Γ 30 24) ⟨[(0, .sl 55 .any l1), (12, .ref 55 0), (20, .i .i64 0)], [some (.arr 55 v.l false)]⟩) := (w30_14b lab l1 l2 n3 l4 v.l).trans (by kernel_rfl)
theorem g30_24 (h : W8) : ∀ (X Y P Q : List Int), h.li = Q ++ Y → P.length = Q.length → X.length = Y.length →
    Goes Γ W30 30 24 ⟨[(0, .sl 55 .any h.l), (12, .ref 55 0), (20, .i .i64 (P.length : Int))], [some (.arr 55 ((P ++ X).map (D.int .u32)) false)]⟩ (.sl 55 .any ((P ++ List.zipWith addU X Y).map (D.int .u32)), [])
  | [], Y, P, Q, h1, h2, h3 => by
    have hY : Y = [] := List.eq_nil_of_length_eq_zero h3.symm
    subst hY
    have hl : h.li.length = Q.length := by rw [h1]; simp
    have : h.li.length = 8 := rfl
    refine Goes.er (er_of (fun q => w30_24b _ _ _ _) (er_f (decide_eq_false (by omega)) (er_is ?_)))
    simp [List.zipWith]
  | x :: X, [], P, Q, h1, h2, h3 => by simp at h3
  | x :: X, y :: Y, P, Q, h1, h2, h3 => by
    have hl : h.li.length = Q.length + (Y.length + 1) := by rw [h1]; simp
    have h8 : h.li.length = 8 := rfl
    have w1 : IntKind.wrap .i64 ((P.length : Int) + 1) = ((P.length + 1 : Nat) : Int) := by rw [wrapI (by omega) (by omega)]; omega
    have cn : (decide ((0 : Int) ≤ (P.length : Int)) && decide ((P.length : Int) < (((P ++ x :: X).map (D.int .u32)).length : Int))) = true := by rw [decide_eq_true (by omega), decide_eq_true (by simp; omega)]; rfl
    have hg1 : ((P ++ x :: X).map (D.int .u32))[P.length]? = some (D.int .u32 x) := by simp
    have hg2 := li_get h1
    rw [← h2] at hg2
    have hs : ((P ++ x :: X).map (D.int .u32)).set P.length (D.int .u32 (addU x y)) = ((P ++ [addU x y]) ++ X).map (D.int .u32) := by simp [List.set_append]
    refine Goes.er (er_of (fun q => w30_24b _ _ _ _) ?_)
    rw [w1]
    simp only [Int.toNat_natCast]
    refine er_t (decide_eq_true (by omega)) (er_t cn (er_get hg1 (er_w (er_idx (by omega) (by rw [Int.toNat_natCast]; exact hg2) (er_w (er_t cn (er_get hg1 (er_lab ?_))))))))
    rw [hs]
    have ih := g30_24 h X Y (P ++ [addU x y]) (Q ++ [y]) (by rw [h1]; simp) (by simp [h2]) (by simpa using h3)
    rw [List.length_append, show P ++ [addU x y] ++ List.zipWith addU X Y = P ++ (addU x y :: List.zipWith addU X Y) by simp] at ih
    rw [List.zipWith_cons_cons]
    exact ih
theorem addW_li (u v : W8) : (List.zipWith addU v.li u.li).map (D.int .u32) = (addW u v).l := by
  unfold addW
  rw [addU_comm u.a, addU_comm u.b, addU_comm u.c, addU_comm u.d, addU_comm u.e, addU_comm u.f, addU_comm u.g, addU_comm u.h]
  rfl
theorem g30_14 (h : W8) : ∀ (ks ws kp wp : List Int) (v : W8), (kp ++ ks).length = 64 → (wp ++ ws).length = 64 → kp.length = wp.length →
    Goes Γ W30 30 14 ⟨[(0, .sl 55 .any h.l), (1, .sl 55 .any ((kp ++ ks).map (D.int .u32))), (7, .ref 55 0), (12, .ref 55 1), (13, .i .i64 (kp.length : Int))], [some (.arr 55 ((wp ++ ws).map (D.int .u32)) false), some (.arr 55 v.l false)]⟩ (.sl 55 .any (addW h (rounds ks ws v)).l, [])
  | [], ws, kp, wp, v, h1, h2, h3 => by
    have hw : ws = [] := List.eq_nil_of_length_eq_zero (by simp at h1 h2; omega)
    subst hw
    refine Goes.er (er_of (fun q => w30_14v _ _ _ _ _ _) (er_f (decide_eq_false (by simp at h1; omega)) (er_lab ?_)))
    have := g30_24 h v.li h.li [] [] rfl rfl rfl
    rw [List.nil_append, List.nil_append, addW_li] at this
    exact this
  | k :: ks, [], kp, wp, v, h1, h2, h3 => by simp at h1 h2; omega
  | k :: ks, w :: ws, kp, wp, v, h1, h2, h3 => by
    have h1' := h1
    rw [List.length_append, List.length_cons] at h1'
    have w1 : IntKind.wrap .i64 ((kp.length : Int) + 1) = ((kp.length + 1 : Nat) : Int) := by rw [wrapI (by omega) (by omega)]; omega
    have cn : (decide ((0 : Int) ≤ (kp.length : Int)) && decide ((kp.length : Int) < (((wp ++ w :: ws).map (D.int .u32)).length : Int))) = true := by rw [decide_eq_true (by omega), decide_eq_true (by simp; omega)]; rfl
    have hg1 : ((kp ++ k :: ks).map (D.int .u32))[((kp.length : Nat) : Int).toNat]? = some (D.int .u32 k) := by simp
    have hg2 : ((wp ++ w :: ws).map (D.int .u32))[kp.length]? = some (D.int .u32 w) := by rw [h3]; simp
    refine Goes.er (er_of (fun q => w30_14v _ _ _ _ _ _) ?_)
    rw [w1]
    simp only [Int.toNat_natCast]
    refine er_t (decide_eq_true (by omega)) (er_idx (by omega) hg1 (er_w (er_t cn (er_get hg2 (er_w (er_lab ?_))))))
    rw [rndR_eq]
    have ih := g30_14 h ks ws (kp ++ [k]) (wp ++ [w]) (rnd k w v) (by simpa using h1) (by simpa using h2) (by simp [h3])
    rw [List.length_append, List.append_assoc, List.append_assoc, List.singleton_append, List.singleton_append] at ih
    exact ih
theorem g30_7 (h : W8) : ∀ (m : Nat) (P : List Int), P.length + m = 64 → 16 ≤ P.length →
    Goes Γ W30 30 7 ⟨[(0, .sl 55 .any h.l), (1, .sl 55 .any (facs.map (D.int .u32))), (7, .ref 55 0), (9, .i .i64 (P.length : Int))], [some (.arr 55 (P.map (D.int .u32) ++ List.replicate m (D.int .u32 0)) false)]⟩ (.sl 55 .any (addW h (rounds facs (sch m P) h)).l, [])
  | 0, P, h1, h2 => by
    refine Goes.er (er_of (fun q => w30_7a _ _ _ _ _) (er_f (decide_eq_false (by omega)) ?_))
    rw [List.replicate_zero, List.append_nil]
    have := g30_14 h facs P [] [] h facs_len (by rw [List.nil_append]; omega) rfl
    rw [List.nil_append, List.nil_append] at this
    exact er_lab this
  | m + 1, P, h1, h2 => by
    have w1 : IntKind.wrap .i64 ((P.length : Int) + 1) = ((P.length + 1 : Nat) : Int) := by rw [wrapI (by omega) (by omega)]; omega
    have a2 : IntKind.wrap .i64 ((P.length : Int) - 2) = ((P.length - 2 : Nat) : Int) := by rw [wrapI (by omega) (by omega)]; omega
    have a7 : IntKind.wrap .i64 ((P.length : Int) - 7) = ((P.length - 7 : Nat) : Int) := by rw [wrapI (by omega) (by omega)]; omega
    have a15 : IntKind.wrap .i64 ((P.length : Int) - 15) = ((P.length - 15 : Nat) : Int) := by rw [wrapI (by omega) (by omega)]; omega
    have a16 : IntKind.wrap .i64 ((P.length : Int) - 16) = ((P.length - 16 : Nat) : Int) := by rw [wrapI (by omega) (by omega)]; omega
    have hlen : (P.map (D.int .u32) ++ List.replicate (m + 1) (D.int .u32 0)).length = 64 := by simp; omega
    have cn : ∀ j : Nat, j < 64 → (decide ((0 : Int) ≤ (j : Int)) && decide ((j : Int) < ((P.map (D.int .u32) ++ List.replicate (m + 1) (D.int .u32 0)).length : Int))) = true := fun j hj => by rw [decide_eq_true (by omega), decide_eq_true (by rw [hlen]; omega)]; rfl
    refine Goes.er (er_of (fun q => w30_7a _ _ _ _ _) ?_)
    rw [w1, a2, a7, a15, a16]
    simp only [Int.toNat_natCast]
    have c15 := cn (P.length - 15) (by omega)
    have c2 := cn (P.length - 2) (by omega)
    have u15 := u32_get (P := P) (m := m + 1) (j := P.length - 15) (by omega)
    have u2 := u32_get (P := P) (m := m + 1) (j := P.length - 2) (by omega)
    refine er_t (decide_eq_true (by omega)) (er_t c15 (er_get u15 (er_w (er_t rfl (er_t c15 (er_get u15 (er_w (er_t rfl (er_t c15 (er_get u15 (er_w (er_t c2 (er_get u2 (er_w (er_t rfl (er_t c2 (er_get u2 (er_w (er_t rfl (er_t c2 (er_get u2 (er_w ?_))))))))))))))))))))))
    refine er_t (cn _ (by omega)) (er_get (u32_get (by omega)) (er_w (er_t (cn _ (by omega)) (er_get (u32_get (by omega)) (er_w (er_t (cn _ (by omega)) (er_get (y := D.int .u32 0) (by have := get_rep (P.map (D.int .u32)) m (D.int .u32 0); rw [List.length_map] at this; exact this) (er_lab ?_))))))))
    rw [sp_0, sp_1, nx_eq]
    have ih := g30_7 h m (P ++ [nx P]) (by simp; omega) (by simp; omega)
    have hs := set_rep (P.map (D.int .u32)) m (D.int .u32 0) (D.int .u32 (nx P))
    rw [List.length_map] at hs
    rw [List.length_append, List.map_append] at ih
    rw [hs]
    exact ih
theorem g30_3 (h : W8) (t : Tx) (ht : t.length = 64) : ∀ (m i : Nat), i + m = 16 →
    Goes Γ W30 30 3 ⟨[(0, .sl 55 .any h.l), (1, .sl 55 .any (facs.map (D.int .u32))), (2, .sl 5 .any (bytesD t)), (7, .ref 55 0), (8, .i .i64 (i : Int))], [some (.arr 55 ((words t i).map (D.int .u32) ++ List.replicate (48 + m) (D.int .u32 0)) false)]⟩ (.sl 55 .any (mixW h t).l, [])
  | 0, i, h1 => by
    obtain rfl : i = 16 := by omega
    refine Goes.er (er_of (fun q => w30_3a _ _ _ _ _ _) (er_f (decide_eq_false (by omega)) (er_lab ?_)))
    have := g30_7 h 48 (words t 16) (by rw [words_len]) (by rw [words_len]; omega)
    rw [words_len] at this
    exact this
  | m + 1, i, h1 => by
    obtain ⟨a, b, c, d, e0, ea, eb, ec, ed⟩ := take4 (t := t) (j := 4 * i) (by omega)
    have w1 : IntKind.wrap .i64 ((i : Int) + 1) = ((i + 1 : Nat) : Int) := by rw [wrapI (by omega) (by omega)]; omega
    have w4 : IntKind.wrap .i64 (4 * (i : Int)) = ((4 * i : Nat) : Int) := by rw [wrapI (by omega) (by omega)]; omega
    have q1 : IntKind.wrap .i64 (((4 * i : Nat) : Int) + 1) = ((4 * i + 1 : Nat) : Int) := by rw [wrapI (by omega) (by omega)]; omega
    have q2 : IntKind.wrap .i64 (((4 * i : Nat) : Int) + 2) = ((4 * i + 2 : Nat) : Int) := by rw [wrapI (by omega) (by omega)]; omega
    have q3 : IntKind.wrap .i64 (((4 * i : Nat) : Int) + 3) = ((4 * i + 3 : Nat) : Int) := by rw [wrapI (by omega) (by omega)]; omega
    have hlen : ((words t i).map (D.int .u32) ++ List.replicate (48 + (m + 1)) (D.int .u32 0)).length = 64 := by simp [words_len]; omega
    have hg := get_rep ((words t i).map (D.int .u32)) (48 + m) (D.int .u32 0)
    rw [List.length_map, words_len] at hg
    refine Goes.er (er_of (fun q => w30_3a _ _ _ _ _ _) ?_)
    rw [w1, w4, q1, q2, q3]
    refine er_t (decide_eq_true (by omega)) (er_idx (by omega) (by_get ea) (er_c (er_idx (by omega) (by_get eb) (er_c (er_idx (by omega) (by_get ec) (er_c (er_idx (by omega) (by_get ed) (er_c ?_))))))))
    rw [Int.toNat_natCast]
    refine er_t (by rw [hlen, decide_eq_true (by omega), decide_eq_true (by omega)]; rfl) (er_get hg (er_lab ?_))
    rw [word_eq, ← e0]
    have ih := g30_3 h t ht m (i + 1) (by omega)
    have hs := set_rep ((words t i).map (D.int .u32)) (48 + m) (D.int .u32 0) (D.int .u32 (word4 t i))
    rw [List.length_map, words_len] at hs
    rw [words, List.map_append] at ih
    show Goes Γ W30 30 3 ⟨[(0, .sl 55 .any h.l), (1, .sl 55 .any (facs.map (D.int .u32))), (2, .sl 5 .any (bytesD t)), (7, .ref 55 0), (8, .i .i64 ((i + 1 : Nat) : Int))], [some (.arr 55 (List.set ((words t i).map (D.int .u32) ++ List.replicate (48 + m + 1) (D.int .u32 0)) i (D.int .u32 (word4 t i))) false)]⟩ _
    rw [hs]
    exact ih
theorem spBlock_ok : SpecOK Γ ⟨30, dat spBlock⟩ := dat_ok fun args r hr => by
  unfold spBlock at hr
  split at hr
  · rename_i c1 h c2 k c3 b
    simp only [Option.some.injEq, Prod.mk.injEq] at hr
    obtain ⟨h1, rfl⟩ := hr
    unfold bkC at h1
    simp only [Bool.and_eq_true, beq_iff_eq] at h1
    obtain ⟨hh, ⟨hk, hk2⟩, hb⟩ := h1
    obtain ⟨eh, _⟩ := isW_eq hh
    obtain ⟨eb, lb⟩ := b64_eq hb
    have ek := u2_eq hk
    rw [hk2] at ek
    obtain ⟨q, hq⟩ := g30_3 (wOf h) (unB b) lb 16 0 (by omega)
    have hr : RetX Γ 30 [.sl 55 .any h, .sl 55 .any k, .sl 5 .any b] [] (.sl 55 .any (mixD h b)) [] := by
      refine ret_goes (Γ := Γ) hP hZ W30_ok (by kernel_rfl) ⟨q, ?_⟩
      rw [w30]
      rw [← eh, ← ek, ← eb] at hq
      exact hq
    exact hr.args (.cons (WkA.sl _ _ _) (.cons (WkA.sl _ _ _) (.cons (WkA.sl _ _ _) .nil)))
  · cases hr
end Go.Proofs.YtafmogdnhpnbiaaDoor.V

/- The document's digest: the factors and the words at the beginning are what the roots of the primes say: reckoned. -/
namespace Go.Proofs.YtafmogdnhpnbiaaDoor.V
open Go
set_option maxRecDepth 100000
theorem roots_beg : (P64.take 8).map (fun p => roU p false) = begW.li := by kernel_rfl
theorem roots_fac : P64.map (fun p => roU p true) = facs := by kernel_rfl
end Go.Proofs.YtafmogdnhpnbiaaDoor.V

/- The document's digest: the contracts of the sum, of a digest as text, of a node. -/
namespace Go.Proofs.YtafmogdnhpnbiaaDoor.V
open Go
set_option maxRecDepth 100000
set_option linter.unusedVariables false
set_option linter.unusedSimpArgs false
theorem W15_ok : CallsOK Γ W15 := specs_ok (.cons spPrimes_ok (.cons spRoots_ok (.cons spBlock_ok .nil)))
/-! ### the digest's bytes -/
def outB (v : W8) (i : Nat) : D := .int .u8 (IntKind.wrap .u8 (shrV .u32 (v.li.getD (i / 4) 0) (24 - 8 * ((i % 4 : Nat) : Int))))
theorem outB_eq (v : W8) : (List.range 32).map (outB v) = bytesD (outW v) := by
  unfold outW
  simp only [bytesD_app, putB_elt]
  kernel_rfl
theorem li_at (v : W8) {i : Nat} (h : i < 8) : v.l[i]? = some (D.int .u32 (v.li.getD i 0)) := by
  rw [l_li, List.getElem?_map, List.getElem?_eq_getElem (show i < v.li.length from h), List.getD_eq_getElem?_getD, List.getElem?_eq_getElem (show i < v.li.length from h)]
  rfl
theorem g15_25 (v : W8) (y3 : List D) : ∀ (m i : Nat), i + m = 32 →
    Goes Γ W15 15 25 ⟨[(2, .ptr 0 [] 35), (4, .sl 55 .any v.l), (11, .ptr 1 [] 35), (12, .i .i64 (i : Int))], [some (.box 35 (.d 35 (D.agg y3))), some (.box 35 (.d 35 (D.agg ((List.range i).map (outB v) ++ List.replicate m (D.int .u8 0)))))]⟩ (.d 35 (.agg (bytesD (outW v))), [])
  | 0, i, h => by
    obtain rfl : i = 32 := by omega
    refine Goes.er (er_of (fun q => w15_25b _ _ _ _ _) (er_f (decide_eq_false (by omega)) (er_is ?_)))
    rw [List.replicate_zero, List.append_nil, outB_eq]
  | m + 1, i, h => by
    have hs := set_rep ((List.range i).map (outB v)) m (D.int .u8 0) (outB v i)
    rw [List.length_map, List.length_range] at hs
    have w1 : IntKind.wrap .i64 ((i : Int) + 1) = ((i + 1 : Nat) : Int) := by rw [wrapI (by omega) (by omega)]; omega
    have q : Int.tdiv (i : Int) 4 = ((i / 4 : Nat) : Int) := by rw [Int.tdiv_eq_ediv_of_nonneg (by omega)]; omega
    have q2 : Int.tmod (i : Int) 4 = ((i % 4 : Nat) : Int) := by rw [Int.tmod_eq_emod_of_nonneg (by omega)]; omega
    have w2 : IntKind.wrap .i64 (Int.tdiv (i : Int) 4) = ((i / 4 : Nat) : Int) := by rw [q, wrapI (by omega) (by omega)]
    have w3 : IntKind.wrap .u64 (IntKind.wrap .i64 (24 - (IntKind.wrap .i64 (8 * (Int.tmod (i : Int) 4))))) = 24 - 8 * ((i % 4 : Nat) : Int) := by
      rw [q2, wrapI (n := 8 * ((i % 4 : Nat) : Int)) (by omega) (by omega), wrapI (by omega) (by omega), wrapU (by omega) (by omega)]
    refine Goes.er (er_of (fun q => w15_25b _ _ _ _ _) ?_)
    rw [w1, w2, w3]
    refine er_t (decide_eq_true (by omega)) (er_idx (by omega) (by rw [Int.toNat_natCast]; exact li_at v (by omega)) (er_w (er_t (decide_eq_true (by omega)) (er_t (by rw [decide_eq_true (by omega), decide_eq_true (by omega)]; rfl) (er_lab ?_)))))
    rw [Int.toNat_natCast]
    have ih := g15_25 v y3 m (i + 1) (by omega)
    rw [List.range_succ, List.map_append] at ih
    show Goes Γ W15 15 25 ⟨[(2, .ptr 0 [] 35), (4, .sl 55 .any v.l), (11, .ptr 1 [] 35), (12, .i .i64 ((i + 1 : Nat) : Int))], [some (.box 35 (.d 35 (D.agg y3))), some (.box 35 (.d 35 (D.agg (List.set ((List.range i).map (outB v) ++ List.replicate (m + 1) (D.int .u8 0)) i (outB v i)))))]⟩ _
    rw [hs]
    exact ih
/-! ### the blocks -/
def facD : List D := facs.map (D.int .u32)
theorem facD_ok : (facD.all isU2 && (unI facD == facs)) = true := by kernel_rfl
theorem cut_eq (pre rest : Tx) : List.take 64 (List.drop pre.length (bytesD (pre ++ rest))) = bytesD (rest.take 64) := by
  rw [bytesD_drop, List.drop_left, bytesD_take]
theorem bk_ok {v : W8} {rest : Tx} (hv : v.ok = true) (h : 64 ≤ rest.length) : bkC v.l facD (bytesD (rest.take 64)) = true := by
  unfold bkC
  rw [isW_l hv, facD_ok]
  unfold b64
  rw [isBy_bytesD, bytesD_len, List.length_take, decide_eq_true (by omega)]; rfl
theorem mx_eq (v : W8) (t : Tx) : mixD v.l (bytesD t) = (mixW v t).l := by
  unfold mixD
  rw [wOf_l, unB_bytesD]
theorem g15_20b (y3 : List D) : ∀ (n : Nat) (v : W8) (pre rest : Tx), rest.length ≤ n → rest.length % 64 = 0 → (pre ++ rest).length ≤ 4398046511104 → v.ok = true →
    Goes Γ W15 15 20 ⟨[(2, .ptr 0 [] 35), (4, .sl 55 .any v.l), (5, .ref 55 1), (7, .ref 5 2), (10, .i .i64 (pre.length : Int))], [some (.box 35 (.d 35 (D.agg y3))), some (.arr 55 facD true), some (.arr 5 (bytesD (pre ++ rest)) true)]⟩ (.d 35 (.agg (bytesD (outW (eatT v rest).1))), [])
  | n, v, pre, rest, hn, h1, h2, hv => by
    by_cases h : 64 ≤ rest.length
    · have hl : (pre ++ rest).length = pre.length + rest.length := by simp
      have w1 : IntKind.wrap .i64 ((pre.length : Int) + 64) = ((pre.length + 64 : Nat) : Int) := by rw [wrapI (by omega) (by omega)]; omega
      refine Goes.er (er_of (fun q => w15_20b _ _ _ _ _ _) ?_)
      rw [w1]
      simp only [Int.toNat_natCast]
      rw [show pre.length + 64 - pre.length = 64 by omega, cut_eq, mx_eq]
      refine er_t (decide_eq_true (by rw [bytesD_len]; omega)) (er_t (by rw [decide_eq_true (by omega), decide_eq_true (by rw [bytesD_len]; omega)]; rfl) (er_t (by rw [decide_eq_true (by omega), decide_eq_true (by omega)]; rfl) (er_t (bk_ok hv h) (er_lab ?_))))
      rw [eatT_hi h]
      cases n with
      | zero => omega
      | succ n =>
        have ih := g15_20b y3 n (mixW v (rest.take 64)) (pre ++ rest.take 64) (rest.drop 64) (by rw [List.length_drop]; omega) (by rw [List.length_drop]; omega) (by rw [List.append_assoc, List.take_append_drop]; exact h2) (mixW_ok _ _)
        rw [List.append_assoc, List.take_append_drop, List.length_append, List.length_take, Nat.min_eq_left h] at ih
        exact ih
    · have h0 : rest = [] := List.eq_nil_of_length_eq_zero (by omega)
      subst h0
      refine Goes.er (er_of (fun q => w15_20b _ _ _ _ _ _) (er_f (decide_eq_false (by rw [bytesD_len, List.append_nil]; omega)) (er_lab ?_)))
      exact g15_25 v y3 32 0 (by omega)
theorem g15_20a (y3 : List D) (t : Tx) (ht : 64 ≤ t.length) (h1 : t.length % 64 = 0) (h2 : t.length ≤ 4398046511104) :
    Goes Γ W15 15 20 ⟨[(2, .ptr 0 [] 35), (4, .ref 55 1), (5, .ref 55 2), (7, .ref 5 3), (10, .i .i64 0)], [some (.box 35 (.d 35 (D.agg y3))), some (.arr 55 begW.l false), some (.arr 55 facD false), some (.arr 5 (bytesD t) false)]⟩ (.d 35 (.agg (bytesD (outW (eatT begW t).1))), []) := by
  have hc := cut_eq [] t
  rw [List.nil_append] at hc
  refine Goes.er (er_of (fun q => w15_20a _ _ _ _ _ _) ?_)
  have w1 : IntKind.wrap .i64 ((0 : Int) + 64) = ((64 : Nat) : Int) := rfl
  rw [w1, Int.toNat_natCast, show (64 : Nat) - Int.toNat 0 = 64 from rfl, show Int.toNat 0 = ([] : Tx).length from rfl, hc, mx_eq]
  refine er_t (decide_eq_true (by rw [bytesD_len]; omega)) (er_t (by rw [decide_eq_true (by omega), decide_eq_true (by rw [bytesD_len]; omega)]; rfl) (er_t rfl (er_t (bk_ok beg_ok ht) (er_lab ?_))))
  rw [eatT_hi ht]
  have := g15_20b y3 _ (mixW begW (t.take 64)) (t.take 64) (t.drop 64) (Nat.le_refl _) (by rw [List.length_drop]; omega) (by rw [List.take_append_drop]; exact h2) (mixW_ok _ _)
  rw [List.take_append_drop, List.length_take, Nat.min_eq_left ht] at this
  exact this
/-! ### what is put behind the text -/
theorem g15_16 (y3 : List D) (N : Nat) (hN : N ≤ 1099511627776) : ∀ (k : Nat) (t : Tx), k ≤ 8 → (t.length + k) % 64 = 0 → t.length + k ≤ 4398046511104 → 64 ≤ t.length + k →
    Goes Γ W15 15 16 ⟨[(2, .ptr 0 [] 35), (4, .ref 55 1), (5, .ref 55 2), (7, .ref 5 3), (8, .i .u64 ((N : Int) * 8)), (9, .i .i64 ((k : Int) - 1))], [some (.box 35 (.d 35 (D.agg y3))), some (.arr 55 begW.l false), some (.arr 55 facD false), some (.arr 5 (bytesD t) false)]⟩
      (.d 35 (.agg (bytesD (outW (eatT begW (t ++ putB ((N : Int) * 8) k)).1))), [])
  | 0, t, hk, h1, h2, h3 => by
    refine Goes.er (er_of (fun q => w15_16a _ _ _ _ _ _ _) (er_f (decide_eq_false (by omega)) (er_lab ?_)))
    rw [show putB ((N : Int) * 8) 0 = [] from rfl, List.append_nil]
    exact g15_20a y3 t (by omega) (by omega) (by omega)
  | k + 1, t, hk, h1, h2, h3 => by
    have w0 : ((k + 1 : Nat) : Int) - 1 = (k : Int) := by omega
    have w1 : IntKind.wrap .i64 ((k : Int) - 1) = (k : Int) - 1 := wrapI (by omega) (by omega)
    have w2 : IntKind.wrap .u64 (IntKind.wrap .i64 (8 * (k : Int))) = 8 * (k : Int) := by rw [wrapI (by omega) (by omega), wrapU (by omega) (by omega)]
    have hp : putB ((N : Int) * 8) (k + 1) = UInt8.ofNat (IntKind.wrap .u8 (shrV .u64 ((N : Int) * 8) (8 * (k : Int)))).toNat :: putB ((N : Int) * 8) k := by
      unfold putB
      rw [List.range_succ_eq_map, List.map_cons, List.map_map]
      congr 1
      · rw [show (((k + 1 : Nat) : Int) - 1 - ((0 : Nat) : Int)) = (k : Int) by omega]
      · refine List.map_congr_left fun i _ => ?_
        show UInt8.ofNat (IntKind.wrap .u8 (shrV .u64 ((N : Int) * 8) (8 * (((k + 1 : Nat) : Int) - 1 - ((i + 1 : Nat) : Int))))).toNat = _
        rw [show (((k + 1 : Nat) : Int) - 1 - ((i + 1 : Nat) : Int)) = (k : Int) - 1 - (i : Int) by omega]
    have hb : bytesD [UInt8.ofNat (IntKind.wrap .u8 (shrV .u64 ((N : Int) * 8) (8 * (k : Int)))).toNat] = [D.int .u8 (IntKind.wrap .u8 (shrV .u64 ((N : Int) * 8) (8 * (k : Int))))] := by
      have := wu8 (shrV .u64 ((N : Int) * 8) (8 * (k : Int)))
      show [D.int .u8 ((UInt8.ofNat (IntKind.wrap .u8 (shrV .u64 ((N : Int) * 8) (8 * (k : Int)))).toNat).toNat : Int)] = _
      rw [UInt8.toNat_ofNat']
      congr 2
      omega
    rw [w0]
    refine Goes.er (er_of (fun q => w15_16a _ _ _ _ _ _ _) ?_)
    rw [w1, w2]
    refine er_t (decide_eq_true (by omega)) (er_t (decide_eq_true (by omega)) (er_t (room1 (by rw [bytesD_len]; omega)) (er_lab ?_)))
    have ih := g15_16 y3 N hN k (t ++ [UInt8.ofNat (IntKind.wrap .u8 (shrV .u64 ((N : Int) * 8) (8 * (k : Int)))).toNat]) (by omega) (by rw [List.length_append, List.length_singleton]; omega) (by rw [List.length_append, List.length_singleton]; omega) (by rw [List.length_append, List.length_singleton]; omega)
    rw [bytesD_app, hb, List.append_assoc, List.singleton_append, ← hp] at ih
    exact ih
theorem g15_12 (y3 : List D) (T : Tx) (hN : T.length ≤ 1099511627776) : ∀ (m : Nat) (t : Tx), m < 64 → (t.length + m) % 64 = 56 → t.length + m ≤ 2199023255552 →
    Goes Γ W15 15 12 ⟨[(0, .sl 5 .any (bytesD T)), (2, .ptr 0 [] 35), (4, .ref 55 1), (5, .ref 55 2), (7, .ref 5 3)], [some (.box 35 (.d 35 (D.agg y3))), some (.arr 55 begW.l false), some (.arr 55 facD false), some (.arr 5 (bytesD t) false)]⟩
      (.d 35 (.agg (bytesD (outW (eatT begW (t ++ (List.replicate m 0 ++ putB ((T.length : Int) * 8) 8))).1))), [])
  | 0, t, h1, h2, h3 => by
    have hs : IntKind.wrap .u64 ((IntKind.wrap .u64 ((bytesD T).length : Int)) * 8) = (T.length : Int) * 8 := by
      rw [bytesD_len, wrapU (n := (T.length : Int)) (by omega) (by omega), wrapU (by omega) (by omega)]
    refine Goes.er (er_of (fun q => w15_12a _ _ _ _ _ _) ?_)
    rw [hs]
    refine er_f ?_ (er_lab ?_)
    · rw [bytesD_len, Int.tmod_eq_emod_of_nonneg (by omega)]
      rw [bne_eq_false_iff_eq]; omega
    · rw [List.replicate_zero, List.nil_append]
      exact g15_16 y3 T.length hN 8 t (by omega) (by omega) (by omega) (by omega)
  | m + 1, t, h1, h2, h3 => by
    refine Goes.er (er_of (fun q => w15_12a _ _ _ _ _ _) (er_t ?_ (er_t (room1 (by rw [bytesD_len]; omega)) (er_lab ?_))))
    · rw [bytesD_len, Int.tmod_eq_emod_of_nonneg (by omega)]
      rw [bne_iff_ne]; omega
    · have ih := g15_12 y3 T hN m (t ++ [0]) (by omega) (by rw [List.length_append, List.length_singleton]; omega) (by rw [List.length_append, List.length_singleton]; omega)
      rw [List.replicate_succ]
      rw [bytesD_app, List.append_assoc] at ih
      exact ih
/-! ### the factors are made -/
def begF : List Int → Nat → List D → List D
  | [], _, l => l
  | p :: r, i, l => begF r (i + 1) (bif decide ((i : Int) < 8) then l.set i (D.int .u32 (roU p false)) else l)
theorem begF_eq : begF P64 0 (List.replicate 8 (D.int .u32 0)) = begW.l := by kernel_rfl
theorem g15_5 (y4 : List D) (T : Tx) (hT : T.length ≤ 1099511627776) : ∀ (rest pre : List Int) (l5 : List D), P64 = pre ++ rest → l5.length = 8 → begF rest pre.length l5 = begW.l →
    Goes Γ W15 15 5 ⟨[(0, .sl 5 .any (bytesD T)), (2, .ptr 0 [] 35), (3, .sl 57 .any (intD P64)), (4, .ref 55 1), (5, .ref 55 2), (6, .i .i64 (pre.length : Int))], [some (.box 35 (.d 35 (D.agg y4))), some (.arr 55 l5 false), some (.arr 55 ((pre.map fun p => roU p true).map (D.int .u32) ++ List.replicate rest.length (D.int .u32 0)) false)]⟩
      (.d 35 (.agg (bytesD (shaT T))), [])
  | [], pre, l5, h1, h2, h3 => by
    rw [List.append_nil] at h1
    have h64 : pre.length = 64 := by rw [← h1]; rfl
    refine Goes.er (er_of (fun q => w15_5a _ _ _ _ _ _ _) (er_f (decide_eq_false (by omega)) ?_))
    have hl : l5 = begW.l := h3
    rw [hl, ← h1, roots_fac, show List.replicate ([] : List Int).length (D.int .u32 0) = [] from rfl, List.append_nil]
    have hh : EXR (.d 35 (.agg (bytesD (shaT T))), []) fun q => L Γ W15 15 q (todoAt Γ 15 12) ⟨[(0, .sl 5 .any (bytesD T)), (2, .ptr 0 [] 35), (4, .ref 55 1), (5, .ref 55 2), (7, .ref 5 3)], [some (.box 35 (.d 35 (D.agg y4))), some (.arr 55 begW.l false), some (.arr 55 facD false), some (.arr 5 (bytesD T ++ [D.int .u8 128]) false)]⟩ := by
      refine er_lab ?_
      have h := g15_12 y4 T hT (zerN T.length) (T ++ [128]) (by unfold zerN; omega) (by rw [List.length_append, List.length_singleton]; unfold zerN; omega) (by rw [List.length_append, List.length_singleton]; unfold zerN; omega)
      rw [bytesD_app, List.append_assoc] at h
      exact h
    refine er_onnil (fun h0 => ?_) (fun h0 => ?_)
    · rw [h0, List.nil_append] at hh
      rw [h0]
      exact hh
    · exact er_t (room1 (by rw [bytesD_len]; omega)) (er_t (room1 (by rw [bytesD_len]; omega)) hh)
  | p :: rest, pre, l5, h1, h2, h3 => by
    have hl : pre.length + (rest.length + 1) = 64 := by
      have := congrArg List.length h1
      rw [List.length_append, List.length_cons] at this
      have h64 : P64.length = 64 := rfl
      omega
    have w1 : IntKind.wrap .i64 ((pre.length : Int) + 1) = ((pre.length + 1 : Nat) : Int) := by rw [wrapI (by omega) (by omega)]; omega
    have hg : (intD P64)[((pre.length : Nat) : Int).toNat]? = some (D.int .u64 p) := by rw [h1]; exact int_mid _ _ _
    have hlen : ((pre.map fun p => roU p true).map (D.int .u32)).length = pre.length := by simp
    have hr := get_rep ((pre.map fun p => roU p true).map (D.int .u32)) rest.length (D.int .u32 0)
    have hs := set_rep ((pre.map fun p => roU p true).map (D.int .u32)) rest.length (D.int .u32 0) (D.int .u32 (roU p true))
    rw [hlen] at hr hs
    have e1 : ((pre.map fun p => roU p true).map (D.int .u32)) ++ [D.int .u32 (roU p true)] = ((pre ++ [p]).map fun p => roU p true).map (D.int .u32) := by simp
    rw [e1] at hs
    have ih := fun l5 => g15_5 y4 T hT rest (pre ++ [p]) l5 (by rw [h1]; simp)
    rw [List.length_append, List.length_singleton] at ih
    refine Goes.er (er_of (fun q => w15_5a _ _ _ _ _ _ _) ?_)
    rw [w1]
    refine er_t (decide_eq_true (by omega)) (er_idx (by omega) hg (er_u (er_t (by rw [decide_eq_true (by omega), decide_eq_true (by rw [List.length_append, hlen, List.length_replicate, List.length_cons]; omega)]; rfl) ?_)))
    rw [Int.toNat_natCast] 
    refine er_get hr ?_
    rw [List.length_cons, hs]
    rw [begF] at h3
    refine er_if (fun c => ?_) (fun c => ?_)
    · rw [c, cond_true] at h3
      have c := of_decide_eq_true c
      refine er_idx (by omega) hg (er_u (er_t (by rw [decide_eq_true (by omega), decide_eq_true (by omega)]; rfl) (er_get (List.getElem?_eq_getElem (by omega)) (er_lab ?_))))
      exact ih _ (by rw [List.length_set]; exact h2) h3
    · rw [c, cond_false] at h3
      exact er_lab (ih l5 h2 h3)
theorem spRef_ok : SpecOK Γ ⟨15, dat spRef⟩ := dat_ok fun args r hr => by
  unfold spRef at hr
  split at hr
  · rename_i c b
    simp only [Option.some.injEq, Prod.mk.injEq] at hr
    obtain ⟨h1, rfl⟩ := hr
    unfold rfC at h1
    simp only [Bool.and_eq_true, decide_eq_true_eq] at h1
    have eb := isBy_eq h1.1
    refine RetX.anyc ?_
    have : EXR (.d 35 (.agg (bytesD (shaT (unB b)))), []) fun q => evF Γ W15 (L Γ W15 15 q) 15 [.sl 5 .any b] [] := by
      refine er_of (fun q => w15 _ _) (er_t rfl (er_lab ?_))
      have := g15_5 (List.replicate 32 (D.int .u8 0)) (unB b) (by rw [unB_len]; exact h1.2) P64 [] (List.replicate 8 (D.int .u32 0)) rfl rfl begF_eq
      rw [← eb] at this
      exact this
    obtain ⟨k, hk⟩ := this
    exact ret_goes (Γ := Γ) hP hZ W15_ok (by kernel_rfl) ⟨k, hk⟩
  · cases hr
/-! ### a digest as text; a node -/
theorem unBytes_bytesD : ∀ l : List UInt8, unBytes (bytesD l) = some l
  | [] => rfl
  | c :: r => by
    have ih := unBytes_bytesD r
    unfold bytesD at ih ⊢
    simp only [List.map_cons, unBytes, ih, Option.map_some, Int.toNat_natCast, UInt8.ofNat_toNat]
theorem er_kb {r : AV × Objs} {l : List UInt8} {K : Nat → List UInt8 → Option (AV × Objs)} (h : EXR r fun n => K n l) : EXR r fun n => kBytes (bytesD l) (K n) := by
  obtain ⟨n, h1⟩ := h
  refine ⟨n, ?_⟩
  show kBytes (bytesD l) (K n) = _
  unfold kBytes
  rw [unBytes_bytesD]
  exact h1
theorem g39 : ∀ (rest pre : Tx), (pre ++ rest).length = 32 →
    Goes Γ (runS []) 39 3 ⟨[(1, .ptr 0 [] 35), (3, .s pre), (4, .i .i64 (pre.length : Int))], [some (.box 35 (.d 35 (D.agg (bytesD (pre ++ rest)))))]⟩ (.s (pre ++ rest), [])
  | [], pre, h => by
    rw [List.append_nil] at h
    refine Goes.er (er_of (fun q => w39_3a _ _ _ _) (er_f (decide_eq_false (by omega)) (er_is ?_)))
    rw [List.append_nil]
  | c :: rest, pre, h => by
    have hl : (pre ++ c :: rest).length = pre.length + (rest.length + 1) := by simp
    have w1 : IntKind.wrap .i64 ((pre.length : Int) + 1) = ((pre ++ [c]).length : Int) := by rw [List.length_append, List.length_singleton, wrapI (by omega) (by omega)]; omega
    have hg : (bytesD (pre ++ c :: rest))[pre.length]? = some (D.int .u8 (c.toNat : Int)) := by unfold bytesD; simp
    refine Goes.er (er_of (fun q => w39_3a _ _ _ _) ?_)
    rw [w1, Int.toNat_natCast]
    refine er_t (decide_eq_true (by omega)) (er_t (by rw [decide_eq_true (by omega), decide_eq_true (by omega)]; rfl) (er_get hg (er_c (er_kb (l := [c]) (er_t (decide_eq_true ?_) (er_lab ?_))))))
    · show pre.length + 1 ≤ 4611686018427387904
      omega
    · have ih := g39 rest (pre ++ [c]) (by simpa using h)
      rw [List.append_assoc, List.singleton_append] at ih
      exact ih
theorem dg_eq {l : List D} (h : isDg l = true) : l = bytesD (unB l) ∧ (unB l).length = 32 := by
  unfold isDg at h
  simp only [Bool.and_eq_true, decide_eq_true_eq] at h
  exact ⟨isBy_eq h.1, by rw [unB_len]; exact h.2⟩
theorem spDig_ok : SpecOK Γ ⟨39, dat spDig⟩ := dat_ok fun args r hr => by
  unfold spDig at hr
  split at hr
  · rename_i d
    simp only [Option.some.injEq, Prod.mk.injEq] at hr
    obtain ⟨h1, rfl⟩ := hr
    obtain ⟨e, hl⟩ := dg_eq h1
    obtain ⟨q, hq⟩ := g39 (unB d) [] hl
    rw [List.nil_append, ← e] at hq
    refine ret_goes (Γ := Γ) hP hZ none_ok (by kernel_rfl) ⟨q, ?_⟩
    rw [w39]
    exact hq
  · cases hr
theorem W31_ok : CallsOK Γ W31 := specs_ok (.cons spDig_ok (.cons spRef_ok .nil))
theorem spNode31_ok : SpecOK Γ ⟨31, dat spNode⟩ := dat_ok fun args r hr => by
  unfold spNode at hr
  split at hr
  · rename_i a b
    simp only [Option.some.injEq, Prod.mk.injEq, Bool.and_eq_true] at hr
    obtain ⟨⟨h1, h2⟩, rfl⟩ := hr
    obtain ⟨ea, la⟩ := dg_eq h1
    obtain ⟨eb, lb⟩ := dg_eq h2
    refine ret_goes (Γ := Γ) hP hZ W31_ok (by kernel_rfl) ⟨0, ?_⟩
    rw [w31, h1, h2, unB_bytesD]
    have c1 : decide (List.length ([1] : List UInt8) + List.length (unB a) ≤ maxStr) = true := decide_eq_true (by show 1 + (unB a).length ≤ 4611686018427387904; omega)
    have c2 : decide (List.length (([1] : List UInt8) ++ unB a) + List.length (unB b) ≤ maxStr) = true := decide_eq_true (by rw [List.length_append]; show 1 + (unB a).length + (unB b).length ≤ 4611686018427387904; omega)
    have c3 : rfC (bytesD (([1] : List UInt8) ++ unB a ++ unB b)) = true := by
      unfold rfC
      rw [isBy_bytesD, bytesD_len, List.length_append, List.length_append, decide_eq_true (by show 1 + (unB a).length + (unB b).length ≤ 1099511627776; omega)]; rfl
    rw [c1, c2, c3]
    rfl
  · cases hr
end Go.Proofs.YtafmogdnhpnbiaaDoor.V

/- The document's proofs, the laws: the contracts' shapes; what the machine over values makes of the functions: equations, written by program. -/
namespace Go.Proofs.YtafmogdnhpnbiaaDoor.V
open Go
set_option maxRecDepth 100000
set_option linter.unusedVariables false
set_option linter.unusedSimpArgs false
/-! ### the contracts' shapes -/
def isStr : D → Bool
  | .str t => decide (t.length ≤ 1073741824)
  | _ => false
def unS1 : D → Tx
  | .str t => t
  | _ => []
def unS (l : List D) : List Tx := l.map unS1
def strs (l : List Tx) : List D := l.map D.str
def rrC (N : Nat) (l : List D) : Bool := l.all isStr && (decide (l.length < N) && decide (l.length ≤ 1000000))
def spRR (N : Nat) : List AV → Option (Bool × AV)
  | [.sl 9 _ l] => some (rrC N l, .d 35 (.agg (bytesD (rootT (unS l)))))
  | _ => none
def rpC (N : Nat) (l : List D) (n : Int) : Bool := rrC N l && (decide (0 ≤ n) && decide (n < (l.length : Int)))
def xRP (N : Nat) : List AV → Objs → Option (Bool × AV × Objs)
  | [.sl 9 _ l, .i .i64 n], [] => some (rpC N l n, .ref 35 0, [some (.arr 35 (dgs (pathT (unS l) n.toNat)) false)])
  | _, _ => none
def rgC (N : Nat) (l : List D) (m : Int) : Bool := rrC N l && (decide (1 ≤ m) && decide (m ≤ (l.length : Int)))
def xRG (N : Nat) : List AV → Objs → Option (Bool × AV × Objs)
  | [.sl 9 _ l, .i .i64 m, .b k], [] => some (rgC N l m, .ref 35 0, [some (.arr 35 (dgs (grownT (unS l) m.toNat k)) false)])
  | _, _ => none
def saB (a b : List D) : Bool := unDs a == unDs b
def spSame : List AV → Option (Bool × AV)
  | [.sl 35 _ a, .sl 35 _ b] => some (isDs a && isDs b, .b (saB a b))
  | _ => none
def cuC (l : List D) : Bool := l.all isBs && decide ((catB l).length + l.length ≤ 536870912)
def cuS (l : List D) : List D := strs ((lvs l).take 24)
def spCut : List AV → Option (Bool × AV)
  | [.sl 39 _ l] => some (cuC l, .tuple [.sl 39 .any (List.take 24 l), .sl 9 .any (cuS l)])
  | _ => none
def lcC (N : Nat) (d : List D) (n s : Int) (p : List D) : Bool := clC N p false d n s && !(clB p false d n s)
def spLC (N : Nat) : List AV → Option (Bool × AV)
  | [.d 35 (.agg d), .i .i64 n, .i .i64 s, .sl 35 _ p] => some (lcC N d n s p, .d 35 (.agg (clD p false d n s)))
  | _ => none
def W16 (N : Nat) : Handle := runS [⟨15, dat spRef⟩, ⟨23, dat spFirst⟩, ⟨16, dat (spRR N)⟩, ⟨31, dat spNode⟩]
theorem w16 (N : Nat) (lab : Lab) (l : List D) : evF Γ (W16 N) lab 16 [.sl 9 .any l] [] =
  bif ((l.length : Int)) == 0 then (bif rfC [] then (some (.d 35 (D.agg ((bytesD (shaT (unB []))))), [])) else none) else (bif ((l.length : Int)) == 1 then (idx l 0 fun y1 => dStr y1 fun s2 => bif decide (List.length ([0] : List UInt8) + List.length s2 ≤ maxStr) then (bif rfC (bytesD (([0] : List UInt8) ++ s2)) then (some (.d 35 (D.agg ((bytesD (shaT (unB (bytesD (([0] : List UInt8) ++ s2))))))), [])) else none) else none) else (bif spC ((l.length : Int)) then (bif decide ((0:Int) ≤ ((splI ((l.length : Int))))) && decide (((splI ((l.length : Int)))) ≤ (l.length : Int)) then (bif rrC N (List.take ((Int.toNat ((splI ((l.length : Int))))) - 0) (List.drop 0 l)) then (bif decide ((0:Int) ≤ ((splI ((l.length : Int))))) && decide (((splI ((l.length : Int)))) ≤ (l.length : Int)) then (bif rrC N (List.take ((l.length) - (Int.toNat ((splI ((l.length : Int)))))) (List.drop (Int.toNat ((splI ((l.length : Int))))) l)) then (bif isDg ((bytesD (rootT (unS (List.take ((Int.toNat ((splI ((l.length : Int))))) - 0) (List.drop 0 l)))))) && isDg ((bytesD (rootT (unS (List.take ((l.length) - (Int.toNat ((splI ((l.length : Int)))))) (List.drop (Int.toNat ((splI ((l.length : Int))))) l)))))) then (some (.d 35 (D.agg ((bytesD (nodeT (unB ((bytesD (rootT (unS (List.take ((Int.toNat ((splI ((l.length : Int))))) - 0) (List.drop 0 l))))))) (unB ((bytesD (rootT (unS (List.take ((l.length) - (Int.toNat ((splI ((l.length : Int)))))) (List.drop (Int.toNat ((splI ((l.length : Int))))) l))))))))))), [])) else none) else none) else none) else none) else none) else none)) := by kernel_rfl
def W11 (N : Nat) : Handle := runS [⟨23, dat spFirst⟩, ⟨16, dat (spRR (N + 1))⟩, ⟨11, xRP N⟩]
theorem w11 (N : Nat) (lab : Lab) (l : List D) (n : Int) : evF Γ (W11 N) lab 11 [.sl 9 .any l, .i .i64 n] [] =
  bif ((l.length : Int)) == 1 then (some (.ref 35 0, [some (.arr 35 [] false)])) else (bif spC ((l.length : Int)) then (bif decide (n < ((splI ((l.length : Int))))) then (bif decide ((0:Int) ≤ ((splI ((l.length : Int))))) && decide (((splI ((l.length : Int)))) ≤ (l.length : Int)) then (bif rpC N (List.take ((Int.toNat ((splI ((l.length : Int))))) - 0) (List.drop 0 l)) n then (bif decide ((0:Int) ≤ ((splI ((l.length : Int))))) && decide (((splI ((l.length : Int)))) ≤ (l.length : Int)) then (bif rrC (N + 1) (List.take ((l.length) - (Int.toNat ((splI ((l.length : Int)))))) (List.drop (Int.toNat ((splI ((l.length : Int))))) l)) then (bif roomB (((dgs (pathT (unS (List.take ((Int.toNat ((splI ((l.length : Int))))) - 0) (List.drop 0 l))) (Int.toNat n)))).length + 1) 32 then (some (.ref 35 0, [some (.arr 35 (((dgs (pathT (unS (List.take ((Int.toNat ((splI ((l.length : Int))))) - 0) (List.drop 0 l))) (Int.toNat n)))) ++ [D.agg ((bytesD (rootT (unS (List.take ((l.length) - (Int.toNat ((splI ((l.length : Int)))))) (List.drop (Int.toNat ((splI ((l.length : Int))))) l))))))]) false)])) else none) else none) else none) else none) else none) else (bif decide ((0:Int) ≤ ((splI ((l.length : Int))))) && decide (((splI ((l.length : Int)))) ≤ (l.length : Int)) then (bif rpC N (List.take ((l.length) - (Int.toNat ((splI ((l.length : Int)))))) (List.drop (Int.toNat ((splI ((l.length : Int))))) l)) (IntKind.wrap .i64 (n - ((splI ((l.length : Int)))))) then (bif decide ((0:Int) ≤ ((splI ((l.length : Int))))) && decide (((splI ((l.length : Int)))) ≤ (l.length : Int)) then (bif rrC (N + 1) (List.take ((Int.toNat ((splI ((l.length : Int))))) - 0) (List.drop 0 l)) then (bif roomB (((dgs (pathT (unS (List.take ((l.length) - (Int.toNat ((splI ((l.length : Int)))))) (List.drop (Int.toNat ((splI ((l.length : Int))))) l))) (Int.toNat (IntKind.wrap .i64 (n - ((splI ((l.length : Int)))))))))).length + 1) 32 then (some (.ref 35 0, [some (.arr 35 (((dgs (pathT (unS (List.take ((l.length) - (Int.toNat ((splI ((l.length : Int)))))) (List.drop (Int.toNat ((splI ((l.length : Int))))) l))) (Int.toNat (IntKind.wrap .i64 (n - ((splI ((l.length : Int)))))))))) ++ [D.agg ((bytesD (rootT (unS (List.take ((Int.toNat ((splI ((l.length : Int))))) - 0) (List.drop 0 l))))))]) false)])) else none) else none) else none) else none) else none)) else none) := by kernel_rfl
def W13 (N : Nat) : Handle := runS [⟨23, dat spFirst⟩, ⟨16, dat (spRR (N + 1))⟩, ⟨13, xRG N⟩]
theorem w13 (N : Nat) (lab : Lab) (l : List D) (n : Int) (b : Bool) : evF Γ (W13 N) lab 13 [.sl 9 .any l, .i .i64 n, .b b] [] =
  bif n == ((l.length : Int)) then (bif b then (some (.ref 35 0, [some (.arr 35 [] false)])) else (bif rrC (N + 1) l then (some (.ref 35 0, [some (.arr 35 [D.agg ((bytesD (rootT (unS l))))] false)])) else none)) else (bif spC ((l.length : Int)) then (bif decide (n ≤ ((splI ((l.length : Int))))) then (bif decide ((0:Int) ≤ ((splI ((l.length : Int))))) && decide (((splI ((l.length : Int)))) ≤ (l.length : Int)) then (bif rgC N (List.take ((Int.toNat ((splI ((l.length : Int))))) - 0) (List.drop 0 l)) n then (bif decide ((0:Int) ≤ ((splI ((l.length : Int))))) && decide (((splI ((l.length : Int)))) ≤ (l.length : Int)) then (bif rrC (N + 1) (List.take ((l.length) - (Int.toNat ((splI ((l.length : Int)))))) (List.drop (Int.toNat ((splI ((l.length : Int))))) l)) then (bif roomB (((dgs (grownT (unS (List.take ((Int.toNat ((splI ((l.length : Int))))) - 0) (List.drop 0 l))) (Int.toNat n) b))).length + 1) 32 then (some (.ref 35 0, [some (.arr 35 (((dgs (grownT (unS (List.take ((Int.toNat ((splI ((l.length : Int))))) - 0) (List.drop 0 l))) (Int.toNat n) b))) ++ [D.agg ((bytesD (rootT (unS (List.take ((l.length) - (Int.toNat ((splI ((l.length : Int)))))) (List.drop (Int.toNat ((splI ((l.length : Int))))) l))))))]) false)])) else none) else none) else none) else none) else none) else (bif decide ((0:Int) ≤ ((splI ((l.length : Int))))) && decide (((splI ((l.length : Int)))) ≤ (l.length : Int)) then (bif rgC N (List.take ((l.length) - (Int.toNat ((splI ((l.length : Int)))))) (List.drop (Int.toNat ((splI ((l.length : Int))))) l)) (IntKind.wrap .i64 (n - ((splI ((l.length : Int)))))) then (bif decide ((0:Int) ≤ ((splI ((l.length : Int))))) && decide (((splI ((l.length : Int)))) ≤ (l.length : Int)) then (bif rrC (N + 1) (List.take ((Int.toNat ((splI ((l.length : Int))))) - 0) (List.drop 0 l)) then (bif roomB (((dgs (grownT (unS (List.take ((l.length) - (Int.toNat ((splI ((l.length : Int)))))) (List.drop (Int.toNat ((splI ((l.length : Int))))) l))) (Int.toNat (IntKind.wrap .i64 (n - ((splI ((l.length : Int))))))) false))).length + 1) 32 then (some (.ref 35 0, [some (.arr 35 (((dgs (grownT (unS (List.take ((l.length) - (Int.toNat ((splI ((l.length : Int)))))) (List.drop (Int.toNat ((splI ((l.length : Int))))) l))) (Int.toNat (IntKind.wrap .i64 (n - ((splI ((l.length : Int))))))) false))) ++ [D.agg ((bytesD (rootT (unS (List.take ((Int.toNat ((splI ((l.length : Int))))) - 0) (List.drop 0 l))))))]) false)])) else none) else none) else none) else none) else none)) else none) := by kernel_rfl
theorem w10 (lab : Lab) (p : List D) (q : List D) : evF Γ (runS []) lab 10 [.sl 35 .any p, .sl 35 .any q] [] =
  bif ((p.length : Int)) != ((q.length : Int)) then (some (.b false, [])) else (lab (todoAt Γ 10 4) ⟨[(0, .sl 35 .any p), (1, .sl 35 .any q), (5, .i .i64 0)], []⟩) := by kernel_rfl
theorem w10_4a (lab : Lab) (l1 : List D) (l2 : List D) (n3 : Int) : evL Γ (runS []) lab 10 4 ⟨[(0, .sl 35 .any l1), (1, .sl 35 .any l2), (5, .i .i64 n3)], []⟩ =
  bif decide (n3 < ((l1.length : Int))) then (idx l1 n3 fun y4 => dAgg y4 fun y5 => idx l2 n3 fun y6 => dAgg y6 fun y7 => bif !(eqD (D.agg y5) (D.agg y7)) then (some (.b false, [])) else (lab (todoAt Γ 10 4) ⟨[(0, .sl 35 .any l1), (1, .sl 35 .any l2), (5, .i .i64 (IntKind.wrap .i64 (n3 + 1)))], []⟩)) else (some (.b true, [])) := by kernel_rfl
theorem w7 (lab : Lab) (l : List D) : evF Γ (runS []) lab 7 [.sl 39 .any l] [] =
  bif decide (((l.length : Int)) > 24) then (bif decide ((0:Int) ≤ 24) && decide (24 ≤ (l.length : Int)) then (lab (todoAt Γ 7 5) ⟨[(0, .sl 39 .any (List.take (24) (List.drop 0 l))), (4, .sl 9 .ex []), (5, .i .i64 0)], []⟩) else none) else (lab (todoAt Γ 7 5) ⟨[(0, .sl 39 .any l), (4, .sl 9 .ex []), (5, .i .i64 0)], []⟩) := by kernel_rfl
theorem w7_5a (lab : Lab) (l1 : List D) (l2 : List D) (n3 : Int) : evL Γ (runS []) lab 7 5 ⟨[(0, .sl 39 .any l1), (4, .sl 9 .ex l2), (5, .i .i64 n3)], []⟩ =
  bif decide (n3 < ((l1.length : Int))) then (idx l1 n3 fun y4 => dSlice y4 fun c5 l6 => kBytes l6 fun s7 => bif roomB (l2.length + 1) 16 then (lab (todoAt Γ 7 5) ⟨[(0, .sl 39 .any l1), (4, .ref 9 0), (5, .i .i64 (IntKind.wrap .i64 (n3 + 1)))], [some (.arr 9 (l2 ++ [D.str s7]) false)]⟩) else none) else (some (.tuple [.sl 39 .any l1, .sl 9 .ex l2], [])) := by kernel_rfl
theorem w7_5b (lab : Lab) (l1 : List D) (n2 : Int) (l3 : List D) : evL Γ (runS []) lab 7 5 ⟨[(0, .sl 39 .any l1), (4, .ref 9 0), (5, .i .i64 n2)], [some (.arr 9 l3 false)]⟩ =
  bif decide (n2 < ((l1.length : Int))) then (idx l1 n2 fun y4 => dSlice y4 fun c5 l6 => kBytes l6 fun s7 => bif roomB (l3.length + 1) 16 then (lab (todoAt Γ 7 5) ⟨[(0, .sl 39 .any l1), (4, .ref 9 0), (5, .i .i64 (IntKind.wrap .i64 (n2 + 1)))], [some (.arr 9 (l3 ++ [D.str s7]) false)]⟩) else none) else (some (.tuple [.sl 39 .any l1, .sl 9 .any l3], [])) := by kernel_rfl
def W19 (N : Nat) : Handle := runS [⟨31, dat spNode⟩, ⟨19, dat (spLC N)⟩]
theorem w19 (N : Nat) (lab : Lab) (d : List D) (n : Int) (m : Int) (p : List D) : evF Γ (W19 N) lab 19 [.d 35 (D.agg d), .i .i64 n, .i .i64 m, .sl 35 .any p] [] =
  bif m == 1 then (some (.d 35 (D.agg d), [])) else (lab (todoAt Γ 19 4) ⟨[(1, .i .i64 n), (2, .i .i64 m), (3, .sl 35 .any p), (4, .ptr 0 [] 35), (8, .ptr 1 [] 35), (9, .i .i64 1)], [some (.box 35 (.d 35 (D.agg d))), some (.box 35 (.d 35 (D.agg [D.int .u8 0, D.int .u8 0, D.int .u8 0, D.int .u8 0, D.int .u8 0, D.int .u8 0, D.int .u8 0, D.int .u8 0, D.int .u8 0, D.int .u8 0, D.int .u8 0, D.int .u8 0, D.int .u8 0, D.int .u8 0, D.int .u8 0, D.int .u8 0, D.int .u8 0, D.int .u8 0, D.int .u8 0, D.int .u8 0, D.int .u8 0, D.int .u8 0, D.int .u8 0, D.int .u8 0, D.int .u8 0, D.int .u8 0, D.int .u8 0, D.int .u8 0, D.int .u8 0, D.int .u8 0, D.int .u8 0, D.int .u8 0])))]⟩) := by kernel_rfl
theorem w19_4a (N : Nat) (lab : Lab) (n1 : Int) (n2 : Int) (l3 : List D) (n4 : Int) (y5 : List D) (y6 : List D) : evL Γ (W19 N) lab 19 4 ⟨[(1, .i .i64 n1), (2, .i .i64 n2), (3, .sl 35 .any l3), (4, .ptr 0 [] 35), (8, .ptr 1 [] 35), (9, .i .i64 n4)], [some (.box 35 (.d 35 (D.agg y5))), some (.box 35 (.d 35 (D.agg y6)))]⟩ =
  bif decide ((IntKind.wrap .i64 (n4 * 2)) < n2) then (lab (todoAt Γ 19 4) ⟨[(1, .i .i64 n1), (2, .i .i64 n2), (3, .sl 35 .any l3), (4, .ptr 0 [] 35), (8, .ptr 1 [] 35), (9, .i .i64 (IntKind.wrap .i64 (n4 * 2)))], [some (.box 35 (.d 35 (D.agg y5))), some (.box 35 (.d 35 (D.agg y6)))]⟩) else (idx l3 (IntKind.wrap .i64 (((l3.length : Int)) - 1)) fun y7 => dAgg y7 fun y8 => bif decide (n1 < n4) then (bif decide ((0:Int) ≤ (IntKind.wrap .i64 (((l3.length : Int)) - 1))) && decide ((IntKind.wrap .i64 (((l3.length : Int)) - 1)) ≤ (l3.length : Int)) then (bif lcC N y5 n1 n4 (List.take ((Int.toNat (IntKind.wrap .i64 (((l3.length : Int)) - 1))) - 0) (List.drop 0 l3)) then (bif isDg ((clD (List.take ((Int.toNat (IntKind.wrap .i64 (((l3.length : Int)) - 1))) - 0) (List.drop 0 l3)) false y5 n1 n4)) && isDg y8 then (some (.d 35 (D.agg ((bytesD (nodeT (unB ((clD (List.take ((Int.toNat (IntKind.wrap .i64 (((l3.length : Int)) - 1))) - 0) (List.drop 0 l3)) false y5 n1 n4))) (unB y8))))), [])) else none) else none) else none) else (bif decide ((0:Int) ≤ (IntKind.wrap .i64 (((l3.length : Int)) - 1))) && decide ((IntKind.wrap .i64 (((l3.length : Int)) - 1)) ≤ (l3.length : Int)) then (bif lcC N y5 (IntKind.wrap .i64 (n1 - n4)) (IntKind.wrap .i64 (n2 - n4)) (List.take ((Int.toNat (IntKind.wrap .i64 (((l3.length : Int)) - 1))) - 0) (List.drop 0 l3)) then (bif isDg y8 && isDg ((clD (List.take ((Int.toNat (IntKind.wrap .i64 (((l3.length : Int)) - 1))) - 0) (List.drop 0 l3)) false y5 (IntKind.wrap .i64 (n1 - n4)) (IntKind.wrap .i64 (n2 - n4)))) then (some (.d 35 (D.agg ((bytesD (nodeT (unB y8) (unB ((clD (List.take ((Int.toNat (IntKind.wrap .i64 (((l3.length : Int)) - 1))) - 0) (List.drop 0 l3)) false y5 (IntKind.wrap .i64 (n1 - n4)) (IntKind.wrap .i64 (n2 - n4))))))))), [])) else none) else none) else none)) := by kernel_rfl
end Go.Proofs.YtafmogdnhpnbiaaDoor.V

/- Proofs of leaves: that each path leads to its root, each growth to both; paths of another length lead nowhere; how long they are. Plain. -/
namespace Go.Proofs.YtafmogdnhpnbiaaDoor.V
open Go
set_option linter.unusedVariables false
set_option linter.unusedSimpArgs false
theorem tkT_app (q : List Tx) (x : Tx) : tkT (q ++ [x]) = x := by unfold tkT; simp
theorem emp_app (q : List Tx) (x : Tx) : (q ++ [x]).isEmpty = false := by cases q <;> rfl
/-- each path leads from its leaf to the root -/
theorem path_climb : ∀ (N : Nat) (l : List Tx) (i : Nat) (q : List Tx) (b : Tx), l.length ≤ N → l[i]? = some b → climbT (q ++ pathT l i) false (leafT b) i l.length = (rootT l, q, false)
  | N, l, i, q, b, hN, hb => by
    have hi : i < l.length := by
      rcases Nat.lt_or_ge i l.length with h | h
      · exact h
      · rw [List.getElem?_eq_none h] at hb; cases hb
    by_cases h1 : l.length ≤ 1
    · match l, h1, hi, hb with
      | [a], _, hi, hb =>
        have : i = 0 := by simp at hi; omega
        subst this
        cases hb
        rw [path_lo 0 (by simp), List.append_nil]
        rfl
    · cases N with
      | zero => omega
      | succ N =>
        obtain ⟨k1, k2⟩ := split_lt (show 2 ≤ l.length by omega)
        rw [climb_hi _ _ _ _ (by omega), path_hi i (by omega), root_eq (l := l) (by omega), cond_false]
        by_cases c : i < split l.length
        · rw [decide_eq_true c, cond_true, cond_true, ← List.append_assoc, List.dropLast_concat, tkT_app, emp_app]
          have := path_climb N (l.take (split l.length)) i q b (by rw [List.length_take]; omega) (by rw [List.getElem?_take]; simp [c, hb])
          rw [List.length_take, Nat.min_eq_left (by omega)] at this
          rw [Bool.or_false, this]
        · rw [decide_eq_false c, cond_false, cond_false, ← List.append_assoc, List.dropLast_concat, tkT_app, emp_app]
          have := path_climb N (l.drop (split l.length)) (i - split l.length) q b (by rw [List.length_drop]; omega) (by rw [List.getElem?_drop, show split l.length + (i - split l.length) = i by omega]; exact hb)
          rw [List.length_drop] at this
          rw [Bool.or_false, this]
/-! ### the greatest power of two below a number -/
theorem splF_pow : ∀ (f j n : Nat), 2 ^ j < n → n ≤ 2 ^ j + f → ∃ j', splF f (2 ^ j) n = 2 ^ j' ∧ 2 ^ j' < n ∧ n ≤ 2 ^ (j' + 1)
  | 0, j, n, h1, h2 => by omega
  | f + 1, j, n, h1, h2 => by
    have hp : 1 ≤ 2 ^ j := Nat.one_le_two_pow
    have e : 2 ^ j * 2 = 2 ^ (j + 1) := by rw [Nat.pow_succ]
    simp only [splF]
    by_cases h : 2 ^ j * 2 < n
    · rw [decide_eq_true h, cond_true, e]
      exact splF_pow f (j + 1) n (by omega) (by omega)
    · rw [decide_eq_false h, cond_false]
      exact ⟨j, rfl, h1, by omega⟩
theorem split_pow {n : Nat} (h : 2 ≤ n) : ∃ j, split n = 2 ^ j ∧ 2 ^ j < n ∧ n ≤ 2 ^ (j + 1) := splF_pow n 0 n (by omega) (by omega)
theorem pow_uniq {i j n : Nat} (h1 : 2 ^ i < n) (h2 : n ≤ 2 ^ (i + 1)) (h3 : 2 ^ j < n) (h4 : n ≤ 2 ^ (j + 1)) : i = j := by
  rcases Nat.lt_trichotomy i j with h | h | h
  · have := Nat.pow_le_pow_right (n := 2) (by omega) (show i + 1 ≤ j by omega); omega
  · exact h
  · have := Nat.pow_le_pow_right (n := 2) (by omega) (show j + 1 ≤ i by omega); omega
theorem split_same {m n : Nat} (h : 2 ≤ n) (h1 : split n < m) (h2 : m ≤ n) : split m = split n := by
  obtain ⟨j, e, a1, a2⟩ := split_pow h
  have hp : 1 ≤ 2 ^ j := Nat.one_le_two_pow
  obtain ⟨i, e', b1, b2⟩ := split_pow (show 2 ≤ m by omega)
  rw [e, e', pow_uniq b1 b2 (show 2 ^ j < m by omega) (by omega)]
/-- each growth leads to the root of the first leaves and to that of all -/
theorem grown_both : ∀ (N : Nat) (l : List Tx) (m : Nat) (k : Bool) (q : List Tx) (old : Tx), l.length ≤ N → 1 ≤ m → m ≤ l.length → (k = true → old = rootT (l.take m)) → bothT (q ++ grownT l m k) false old m l.length k = (rootT (l.take m), rootT l, q, false)
  | N, l, m, k, q, old, hN, h1, h2, h3 => by
    by_cases e : m = l.length
    · subst e
      rw [both_all _ _ _ h1, grown_all _ h1, List.take_length]
      cases k with
      | true =>
        rw [h3 rfl, List.take_length]
        show (rootT l, rootT l, q ++ [], false) = _
        rw [List.append_nil]
      | false =>
        show (tkT (q ++ [rootT l]), tkT (q ++ [rootT l]), (q ++ [rootT l]).dropLast, (q ++ [rootT l]).isEmpty) = _
        rw [tkT_app, emp_app, List.dropLast_concat]
    · cases N with
      | zero => omega
      | succ N =>
        obtain ⟨k1, k2⟩ := split_lt (show 2 ≤ l.length by omega)
        rw [both_hi _ _ _ h1 (by omega), grown_hi k h1 (by omega), root_eq (l := l) (by omega)]
        by_cases c : m ≤ split l.length
        · rw [decide_eq_true c, cond_true, cond_true, ← List.append_assoc, List.dropLast_concat, tkT_app, emp_app]
          have ht : (l.take (split l.length)).take m = l.take m := by rw [List.take_take, Nat.min_eq_left c]
          have := grown_both N (l.take (split l.length)) m k q old (by rw [List.length_take]; omega) h1 (by rw [List.length_take]; omega) (by rw [ht]; exact h3)
          rw [List.length_take, Nat.min_eq_left (by omega), ht] at this
          rw [this]
        · rw [decide_eq_false c, cond_false, cond_false, ← List.append_assoc, List.dropLast_concat, tkT_app, emp_app]
          have := grown_both N (l.drop (split l.length)) (m - split l.length) false q old (by rw [List.length_drop]; omega) (by omega) (by rw [List.length_drop]; omega) (fun h => by cases h)
          rw [List.length_drop] at this
          rw [this]
          have hl : (l.take m).length = m := by rw [List.length_take]; omega
          have hs : split m = split l.length := split_same (by omega) (by omega) (by omega)
          have e1 : rootT (l.take m) = nodeT (rootT (l.take (split l.length))) (rootT ((l.drop (split l.length)).take (m - split l.length))) := by
            rw [root_eq (l := l.take m) (by omega), hl, hs, List.take_take, Nat.min_eq_left (by omega), List.drop_take]
          rw [e1]
/-! ### digests too many or too few -/
theorem path_pos {l : List Tx} (i : Nat) (h : 2 ≤ l.length) : 1 ≤ (pathT l i).length := by
  rw [path_hi i h]
  cases decide (i < split l.length) <;> simp
theorem climb_bad (p : List Tx) (d : Tx) (n : Nat) : ∀ (s : Nat), 1 ≤ s → climbT p true d n s = (d, p, true) := fun s h => by
  by_cases h1 : s = 1
  · subst h1; rfl
  · rw [climb_hi _ _ _ _ (by omega)]; rfl
theorem climb_len : ∀ (N : Nat) (l : List Tx) (i : Nat) (p : List Tx) (d : Tx), l.length ≤ N → 1 ≤ l.length → i < l.length →
    ((pathT l i).length ≤ p.length → (climbT p false d i l.length).2.1.length = p.length - (pathT l i).length ∧ (climbT p false d i l.length).2.2 = false) ∧
    (p.length < (pathT l i).length → (climbT p false d i l.length).2.2 = true)
  | N, l, i, p, d, hN, h0, hi => by
    by_cases h1 : l.length = 1
    · rw [path_lo i (by omega), h1]
      exact ⟨fun _ => ⟨rfl, rfl⟩, fun h => absurd h (by simp)⟩
    · cases N with
      | zero => omega
      | succ N =>
        obtain ⟨k1, k2⟩ := split_lt (show 2 ≤ l.length by omega)
        rw [climb_hi _ _ _ _ (by omega), path_hi i (by omega), cond_false]
        have ht : (l.take (split l.length)).length = split l.length := by rw [List.length_take]; omega
        have hd : (l.drop (split l.length)).length = l.length - split l.length := by rw [List.length_drop]
        cases p with
        | nil =>
          have e : (false || ([] : List Tx).isEmpty) = true := rfl
          rw [e, climb_bad _ _ _ _ (by omega), climb_bad _ _ _ _ (by omega)]
          refine ⟨fun h => ?_, fun h => ?_⟩
          · exfalso
            cases hc : decide (i < split l.length) <;> rw [hc] at h <;> simp at h
          · cases hc : decide (i < split l.length) <;> rfl
        | cons x r =>
          have e : (false || (x :: r).isEmpty) = false := rfl
          have hl : (x :: r).dropLast.length = r.length := by rw [List.length_dropLast]; rfl
          rw [e]
          by_cases c : i < split l.length
          · rw [decide_eq_true c, cond_true, cond_true]
            have ih := climb_len N (l.take (split l.length)) i (x :: r).dropLast d (by omega) (by omega) (by omega)
            rw [hl, ht] at ih
            refine ⟨fun h => ?_, fun h => ?_⟩
            · rw [List.length_append, List.length_singleton, List.length_cons] at h
              obtain ⟨a, b⟩ := ih.1 (by omega)
              refine ⟨?_, b⟩
              rw [List.length_append, List.length_singleton, List.length_cons]
              show (climbT (x :: r).dropLast false d i (split l.length)).2.1.length = _
              omega
            · rw [List.length_append, List.length_singleton, List.length_cons] at h
              exact ih.2 (by omega)
          · rw [decide_eq_false c, cond_false, cond_false]
            have ih := climb_len N (l.drop (split l.length)) (i - split l.length) (x :: r).dropLast d (by omega) (by omega) (by omega)
            rw [hl, hd] at ih
            refine ⟨fun h => ?_, fun h => ?_⟩
            · rw [List.length_append, List.length_singleton, List.length_cons] at h
              obtain ⟨a, b⟩ := ih.1 (by omega)
              refine ⟨?_, b⟩
              rw [List.length_append, List.length_singleton, List.length_cons]
              show (climbT (x :: r).dropLast false d (i - split l.length) (l.length - split l.length)).2.1.length = _
              omega
            · rw [List.length_append, List.length_singleton, List.length_cons] at h
              exact ih.2 (by omega)
/-! ### how deep -/
theorem split_deep {n D : Nat} (h : 2 ≤ n) (hD : n ≤ 2 ^ (D + 1)) : split n ≤ 2 ^ D ∧ n - split n ≤ 2 ^ D := by
  obtain ⟨j, e, a1, a2⟩ := split_pow h
  have hj : j ≤ D := by
    rcases Nat.lt_or_ge D j with h | h
    · have := Nat.pow_le_pow_right (n := 2) (by omega) (show D + 1 ≤ j by omega); omega
    · exact h
  have h2 := Nat.pow_le_pow_right (n := 2) (by omega) hj
  have h3 : 2 ^ (j + 1) = 2 ^ j * 2 := Nat.pow_succ ..
  rw [e]
  omega
theorem path_deep : ∀ (D : Nat) (l : List Tx) (i : Nat), l.length ≤ 2 ^ D → (pathT l i).length ≤ D
  | D, l, i, h => by
    by_cases h1 : l.length ≤ 1
    · rw [path_lo i h1]; simp
    · cases D with
      | zero => omega
      | succ D =>
        obtain ⟨a, b⟩ := split_deep (show 2 ≤ l.length by omega) h
        rw [path_hi i (by omega)]
        cases decide (i < split l.length) with
        | true =>
          have := path_deep D (l.take (split l.length)) i (by rw [List.length_take]; omega)
          simp; omega
        | false =>
          have := path_deep D (l.drop (split l.length)) (i - split l.length) (by rw [List.length_drop]; omega)
          simp; omega
theorem grown_deep : ∀ (D : Nat) (l : List Tx) (m : Nat) (k : Bool), l.length ≤ 2 ^ D → 1 ≤ m → m ≤ l.length → (grownT l m k).length ≤ D + 1
  | D, l, m, k, h, h1, h2 => by
    by_cases e : m = l.length
    · subst e
      rw [grown_all k h1]
      cases k <;> simp
    · cases D with
      | zero => omega
      | succ D =>
        obtain ⟨a, b⟩ := split_deep (show 2 ≤ l.length by omega) h
        obtain ⟨k1, k2⟩ := split_lt (show 2 ≤ l.length by omega)
        rw [grown_hi k h1 (by omega)]
        by_cases c : m ≤ split l.length
        · rw [decide_eq_true c]
          have := grown_deep D (l.take (split l.length)) m k (by rw [List.length_take]; omega) h1 (by rw [List.length_take]; omega)
          simp; omega
        · rw [decide_eq_false c]
          have := grown_deep D (l.drop (split l.length)) (m - split l.length) false (by rw [List.length_drop]; omega) (by omega) (by rw [List.length_drop]; omega)
          simp; omega
end Go.Proofs.YtafmogdnhpnbiaaDoor.V

/- The document's proofs: contracts of Root, Path, Grown, Same; the laws' cut and climb. -/
namespace Go.Proofs.YtafmogdnhpnbiaaDoor.V
open Go
set_option maxRecDepth 100000
set_option linter.unusedVariables false
set_option linter.unusedSimpArgs false
theorem unS_len (l : List D) : (unS l).length = l.length := by unfold unS; simp
theorem unS_take (l : List D) (n : Nat) : unS (l.take n) = (unS l).take n := by unfold unS; simp
theorem unS_drop (l : List D) (n : Nat) : unS (l.drop n) = (unS l).drop n := by unfold unS; simp
theorem rrC_ex {N : Nat} {l : List D} (h : rrC N l = true) : l.all isStr = true ∧ l.length < N ∧ l.length ≤ 1000000 := by
  unfold rrC at h
  simpa using h
theorem rrC_of {N : Nat} {l : List D} (h1 : l.all isStr = true) (h2 : l.length < N) (h3 : l.length ≤ 1000000) : rrC N l = true := by
  unfold rrC
  rw [h1, decide_eq_true h2, decide_eq_true h3]; rfl
theorem rrC_take {N n : Nat} {l : List D} (h : rrC (N + 1) l = true) (hn : n < l.length) : rrC N (l.take n) = true := by
  obtain ⟨h1, h2, h3⟩ := rrC_ex h
  exact rrC_of (all_take n h1) (by rw [List.length_take]; omega) (by rw [List.length_take]; omega)
theorem rrC_drop {N n : Nat} {l : List D} (h : rrC (N + 1) l = true) (hn : 1 ≤ n) (hn2 : n ≤ l.length) : rrC N (l.drop n) = true := by
  obtain ⟨h1, h2, h3⟩ := rrC_ex h
  exact rrC_of (all_drop n h1) (by rw [List.length_drop]; omega) (by rw [List.length_drop]; omega)
theorem rrC_up {N : Nat} {l : List D} (h : rrC N l = true) : rrC (N + 1) l = true := by
  obtain ⟨h1, h2, h3⟩ := rrC_ex h
  exact rrC_of h1 (by omega) h3
theorem str_ex {d : D} (h : isStr d = true) : ∃ t, d = .str t ∧ t.length ≤ 1073741824 := by
  unfold isStr at h
  split at h
  · exact ⟨_, rfl, of_decide_eq_true h⟩
  · cases h
theorem lf_t (t : Tx) : ([0] : List UInt8) ++ t = 0 :: t := rfl
theorem spRR_ok : ∀ N, SpecOK Γ ⟨16, dat (spRR N)⟩
  | 0 => dat_ok fun args r hr => by
    unfold spRR at hr
    split at hr
    · simp only [Option.some.injEq, Prod.mk.injEq] at hr
      have := (rrC_ex hr.1).2.1
      omega
    · cases hr
  | N + 1 => dat_ok fun args r hr => by
    have hW : CallsOK Γ (W16 N) := specs_ok (.cons spRef_ok (.cons spSplit_ok (.cons (spRR_ok N) (.cons spNode31_ok .nil))))
    unfold spRR at hr
    split at hr
    · rename_i c l
      simp only [Option.some.injEq, Prod.mk.injEq] at hr
      obtain ⟨h0, rfl⟩ := hr
      obtain ⟨h1, h2, h3⟩ := rrC_ex h0
      refine RetX.anyc ?_
      by_cases hl : 2 ≤ l.length
      · obtain ⟨k1, k2⟩ := split_lt hl
        refine ret_goes (Γ := Γ) hP hZ hW (by kernel_rfl) ⟨0, ?_⟩
        rw [w16, spl_len]
        simp only [Int.toNat_natCast]
        rw [cutT, cutD, show ((l.length : Int) == 0) = false by rw [beq_eq_false_iff_ne]; omega, show ((l.length : Int) == 1) = false by rw [beq_eq_false_iff_ne]; omega, spC_of (by omega), c_in (by omega), rrC_take h0 k2, rrC_drop h0 k1 (by omega), dg_of (rootT_len _), dg_of (rootT_len _), unB_bytesD, unB_bytesD, unS_take, unS_drop]
        rw [root_eq (l := unS l) (by rw [unS_len]; exact hl), unS_len]
        rfl
      · match l with
        | [] => exact ret_goes (Γ := Γ) hP hZ hW (by kernel_rfl) ⟨0, by rw [w16]; rfl⟩
        | [y] =>
          have h1 : isStr y = true ∧ True := by simpa using h1
          obtain ⟨t, rfl, ht⟩ := str_ex h1.1
          have c1 : decide (List.length ([0] : List UInt8) + List.length t ≤ maxStr) = true := decide_eq_true (by show 1 + t.length ≤ 4611686018427387904; omega)
          have c2 : rfC (bytesD (([0] : List UInt8) ++ t)) = true := by
            unfold rfC
            rw [isBy_bytesD, bytesD_len, List.length_append, decide_eq_true (by show 1 + t.length ≤ 1099511627776; omega)]; rfl
          refine ret_goes (Γ := Γ) hP hZ hW (by kernel_rfl) ⟨0, ?_⟩
          rw [w16]
          show (bif decide (List.length ([0] : List UInt8) + List.length t ≤ maxStr) then (bif rfC (bytesD (([0] : List UInt8) ++ t)) then (some (AV.d 35 (D.agg ((bytesD (shaT (unB (bytesD (([0] : List UInt8) ++ t))))))), ([] : Objs))) else none) else none) = _
          rw [c1, c2, unB_bytesD]; rfl
        | a :: b :: r => simp at hl
    · cases hr
theorem rpC_ex {N : Nat} {l : List D} {n : Int} (h : rpC N l n = true) : rrC N l = true ∧ 0 ≤ n ∧ n < (l.length : Int) := by
  unfold rpC at h
  simpa using h
theorem rpC_of {N : Nat} {l : List D} {n : Int} (h1 : rrC N l = true) (h2 : 0 ≤ n) (h3 : n < (l.length : Int)) : rpC N l n = true := by
  unfold rpC
  rw [h1, decide_eq_true h2, decide_eq_true h3]; rfl
theorem rgC_ex {N : Nat} {l : List D} {n : Int} (h : rgC N l n = true) : rrC N l = true ∧ 1 ≤ n ∧ n ≤ (l.length : Int) := by
  unfold rgC at h
  simpa using h
theorem rgC_of {N : Nat} {l : List D} {n : Int} (h1 : rrC N l = true) (h2 : 1 ≤ n) (h3 : n ≤ (l.length : Int)) : rgC N l n = true := by
  unfold rgC
  rw [h1, decide_eq_true h2, decide_eq_true h3]; rfl
theorem xRP_ok : ∀ N, SpecOK Γ ⟨11, xRP N⟩
  | 0 => by
    intro args obs r obs' hr
    change xRP 0 args obs = some (true, r, obs') at hr
    unfold xRP at hr
    split at hr
    · simp only [Option.some.injEq, Prod.mk.injEq] at hr
      have := (rrC_ex (rpC_ex hr.1).1).2.1
      omega
    · cases hr
  | N + 1 => by
    have hW : CallsOK Γ (W11 N) := specs_ok (.cons spSplit_ok (.cons (spRR_ok (N + 1)) (.cons (xRP_ok N) .nil)))
    intro args obs r obs' hr
    change xRP (N + 1) args obs = some (true, r, obs') at hr
    unfold xRP at hr
    split at hr
    · rename_i c l n
      simp only [Option.some.injEq, Prod.mk.injEq] at hr
      obtain ⟨h0, rfl, rfl⟩ := hr
      obtain ⟨h1, h3, h4⟩ := rpC_ex h0
      obtain ⟨n, rfl⟩ : ∃ q : Nat, n = (q : Int) := ⟨n.toNat, by omega⟩
      obtain ⟨_, _, e2⟩ := rrC_ex h1
      refine RetX.anyc ?_
      rw [Int.toNat_natCast]
      refine ret_goes (Γ := Γ) hP hZ hW (by kernel_rfl) ⟨0, ?_⟩
      by_cases h2 : l.length = 1
      · rw [w11, h2, path_lo n (by rw [unS_len]; omega)]; rfl
      · have h2 : 2 ≤ l.length := by omega
        obtain ⟨k1, k2⟩ := split_lt h2
        have hT := path_hi (l := unS l) n (by rw [unS_len]; exact h2)
        rw [unS_len] at hT
        have hl1 : ((l.length : Int) == 1) = false := by rw [beq_eq_false_iff_ne]; omega
        have ht := rrC_take h1 k2
        have hd := rrC_drop h1 k1 (by omega)
        by_cases hn : n < split l.length
        · rw [decide_eq_true hn, cond_true] at hT
          have hp : rpC N (l.take (split l.length)) (n : Int) = true := rpC_of ht (by omega) (by rw [List.length_take]; omega)
          have hr : roomB ((dgs (pathT (unS (l.take (split l.length))) n)).length + 1) 32 = true := by
            have := path_le _ (unS (l.take (split l.length))) n (Nat.le_refl _)
            rw [unS_len, List.length_take] at this
            exact room32 (by rw [dgs_len]; omega)
          rw [w11, spl_len]
          simp only [Int.toNat_natCast]
          rw [cutT, cutD, hl1, spC_of (by omega), decide_eq_true (show (n : Int) < ((split l.length : Nat) : Int) by omega), c_in (by omega), hp, rrC_up hd, hr]
          rw [hT, dgs_app, unS_take, unS_drop]; rfl
        · rw [decide_eq_false hn, cond_false] at hT
          have w1 : IntKind.wrap .i64 ((n : Int) - ((split l.length : Nat) : Int)) = ((n - split l.length : Nat) : Int) := by rw [wrapI (by omega) (by omega)]; omega
          have hp : rpC N (l.drop (split l.length)) ((n - split l.length : Nat) : Int) = true := rpC_of hd (by omega) (by rw [List.length_drop]; omega)
          have hr : roomB ((dgs (pathT (unS (l.drop (split l.length))) (n - split l.length))).length + 1) 32 = true := by
            have := path_le _ (unS (l.drop (split l.length))) (n - split l.length) (Nat.le_refl _)
            rw [unS_len, List.length_drop] at this
            exact room32 (by rw [dgs_len]; omega)
          rw [w11, spl_len, w1]
          simp only [Int.toNat_natCast]
          rw [cutT, cutD, hl1, spC_of (by omega), decide_eq_false (show ¬ (n : Int) < ((split l.length : Nat) : Int) by omega), c_in (by omega), hp, rrC_up ht, hr]
          rw [hT, dgs_app, unS_take, unS_drop]; rfl
    · cases hr
theorem xRG_ok : ∀ N, SpecOK Γ ⟨13, xRG N⟩
  | 0 => by
    intro args obs r obs' hr
    change xRG 0 args obs = some (true, r, obs') at hr
    unfold xRG at hr
    split at hr
    · simp only [Option.some.injEq, Prod.mk.injEq] at hr
      have := (rrC_ex (rgC_ex hr.1).1).2.1
      omega
    · cases hr
  | N + 1 => by
    have hW : CallsOK Γ (W13 N) := specs_ok (.cons spSplit_ok (.cons (spRR_ok (N + 1)) (.cons (xRG_ok N) .nil)))
    intro args obs r obs' hr
    change xRG (N + 1) args obs = some (true, r, obs') at hr
    unfold xRG at hr
    split at hr
    · rename_i c l m k
      simp only [Option.some.injEq, Prod.mk.injEq] at hr
      obtain ⟨h0, rfl, rfl⟩ := hr
      obtain ⟨h1, h3, h4⟩ := rgC_ex h0
      obtain ⟨m, rfl⟩ : ∃ q : Nat, m = (q : Int) := ⟨m.toNat, by omega⟩
      obtain ⟨_, _, e2⟩ := rrC_ex h1
      refine RetX.anyc ?_
      rw [Int.toNat_natCast]
      refine ret_goes (Γ := Γ) hP hZ hW (by kernel_rfl) ⟨0, ?_⟩
      by_cases hm : m = l.length
      · subst hm
        have hT := grown_all (l := unS l) k (by rw [unS_len]; omega)
        rw [unS_len] at hT
        rw [w13, beq_self_eq_true, h1, hT]
        cases k <;> rfl
      · obtain ⟨k1, k2⟩ := split_lt (show 2 ≤ l.length by omega)
        have hT := grown_hi (l := unS l) (m := m) k (by omega) (by rw [unS_len]; omega)
        rw [unS_len] at hT
        have hl1 : ((m : Int) == (l.length : Int)) = false := by rw [beq_eq_false_iff_ne]; omega
        have ht := rrC_take h1 k2
        have hd := rrC_drop h1 k1 (by omega)
        by_cases hn : m ≤ split l.length
        · rw [decide_eq_true hn, cond_true] at hT
          have hp : rgC N (l.take (split l.length)) (m : Int) = true := rgC_of ht (by omega) (by rw [List.length_take]; omega)
          have hr : roomB ((dgs (grownT (unS (l.take (split l.length))) m k)).length + 1) 32 = true := by
            have := (grown_le _ (unS (l.take (split l.length))) m k (Nat.le_refl _) (by omega) (by rw [unS_len, List.length_take]; omega)).1
            rw [unS_len, List.length_take] at this
            exact room32 (by rw [dgs_len]; omega)
          rw [w13, spl_len]
          simp only [Int.toNat_natCast]
          rw [cutT, cutD, hl1, spC_of (by omega), decide_eq_true (show (m : Int) ≤ ((split l.length : Nat) : Int) by omega), c_in (by omega), hp, rrC_up hd, hr]
          rw [hT, dgs_app, unS_take, unS_drop]; rfl
        · rw [decide_eq_false hn, cond_false] at hT
          have w1 : IntKind.wrap .i64 ((m : Int) - ((split l.length : Nat) : Int)) = ((m - split l.length : Nat) : Int) := by rw [wrapI (by omega) (by omega)]; omega
          have hp : rgC N (l.drop (split l.length)) ((m - split l.length : Nat) : Int) = true := rgC_of hd (by omega) (by rw [List.length_drop]; omega)
          have hr : roomB ((dgs (grownT (unS (l.drop (split l.length))) (m - split l.length) false)).length + 1) 32 = true := by
            have := (grown_le _ (unS (l.drop (split l.length))) (m - split l.length) false (Nat.le_refl _) (by omega) (by rw [unS_len, List.length_drop]; omega)).1
            rw [unS_len, List.length_drop] at this
            exact room32 (by rw [dgs_len]; omega)
          rw [w13, spl_len, w1]
          simp only [Int.toNat_natCast]
          rw [cutT, cutD, hl1, spC_of (by omega), decide_eq_false (show ¬ (m : Int) ≤ ((split l.length : Nat) : Int) by omega), c_in (by omega), hp, rrC_up ht, hr]
          rw [hT, dgs_app, unS_take, unS_drop]; rfl
    · cases hr
/-! ### the same digests? -/
theorem dgs_mid (pre : List Tx) (x : Tx) (r : List Tx) : (dgs (pre ++ x :: r))[((pre.length : Nat) : Int).toNat]? = some (D.agg (bytesD x)) := by
  rw [Int.toNat_natCast]; unfold dgs; simp
theorem dgs_mid2 {pre : List Tx} {n : Nat} (h : pre.length = n) (x : Tx) (r : List Tx) : (dgs (pre ++ x :: r))[((n : Nat) : Int).toNat]? = some (D.agg (bytesD x)) := by
  subst h; exact dgs_mid pre x r
theorem eqD_bb (a b : Tx) : eqD (D.agg (bytesD a)) (D.agg (bytesD b)) = (a == b) := eqDs_bytes a b
theorem g10 : ∀ (p q pp qp : List Tx), pp.length = qp.length → p.length = q.length → (pp ++ p).length ≤ 1000000000 →
    Goes Γ (runS []) 10 4 ⟨[(0, .sl 35 .any (dgs (pp ++ p))), (1, .sl 35 .any (dgs (qp ++ q))), (5, .i .i64 (pp.length : Int))], []⟩ (.b (p == q), [])
  | [], q, pp, qp, h1, h2, h3 => by
    have : q = [] := List.eq_nil_of_length_eq_zero h2.symm
    subst this
    exact Goes.er (er_of (fun k => w10_4a _ _ _ _) (er_f (decide_eq_false (by rw [dgs_len, List.append_nil]; omega)) er_some))
  | x :: p, [], pp, qp, h1, h2, h3 => by simp at h2
  | x :: p, y :: q, pp, qp, h1, h2, h3 => by
    have hl : (pp ++ x :: p).length = pp.length + (p.length + 1) := by simp
    have w1 : IntKind.wrap .i64 ((pp.length : Int) + 1) = ((pp ++ [x]).length : Int) := by rw [List.length_append, List.length_singleton, wrapI (by omega) (by omega)]; omega
    refine Goes.er (er_of (fun k => w10_4a _ _ _ _) (er_t (decide_eq_true (by rw [dgs_len]; omega)) (er_idx (by omega) (dgs_mid _ _ _) (er_agg (er_idx (by omega) (dgs_mid2 h1.symm _ _) (er_agg ?_))))))
    rw [eqD_bb, w1]
    have e : ((x :: p) == (y :: q)) = (x == y && p == q) := rfl
    rw [e]
    cases hxy : x == y with
    | false => exact er_t rfl er_some
    | true =>
      have ih := g10 p q (pp ++ [x]) (qp ++ [y]) (by simp [h1]) (by simpa using h2) (by simpa using h3)
      rw [List.append_assoc, List.append_assoc, List.singleton_append, List.singleton_append] at ih
      exact er_f rfl (er_lab ih)
theorem spSame_ok : SpecOK Γ ⟨10, dat spSame⟩ := dat_ok fun args r hr => by
  unfold spSame at hr
  split at hr
  · rename_i c1 a c2 b
    simp only [Option.some.injEq, Prod.mk.injEq, Bool.and_eq_true] at hr
    obtain ⟨⟨h1, h2⟩, rfl⟩ := hr
    have ea := dgs_unDs h1
    have eb := dgs_unDs h2
    have := (ds_ex h1).2
    have hr : RetX Γ 10 [.sl 35 .any a, .sl 35 .any b] [] (.b (saB a b)) [] := by
      by_cases hl : a.length = b.length
      · obtain ⟨k, hk⟩ := g10 (unDs a) (unDs b) [] [] rfl (by rw [unDs_len, unDs_len]; exact hl) (by rw [List.nil_append, unDs_len]; omega)
        rw [List.nil_append, List.nil_append, ea, eb] at hk
        refine ret_goes (Γ := Γ) hP hZ none_ok (by kernel_rfl) ⟨k, ?_⟩
        rw [w10, hl, show ((b.length : Int) != (b.length : Int)) = false by rw [bne_eq_false_iff_eq]]
        exact hk
      · refine ret_goes (Γ := Γ) hP hZ none_ok (by kernel_rfl) ⟨0, ?_⟩
        have hne : saB a b = false := by
          unfold saB
          rw [beq_eq_false_iff_ne]
          intro h
          have := congrArg List.length h
          rw [unDs_len, unDs_len] at this
          exact hl this
        rw [w10, show ((a.length : Int) != (b.length : Int)) = true by rw [bne_iff_ne]; omega, hne]; rfl
    exact hr.args (.cons (WkA.sl _ _ _) (.cons (WkA.sl _ _ _) .nil))
  · cases hr
/-! ### at most some leaves, as texts -/
theorem room16 {n : Nat} (h : n ≤ 1000000000) : roomB n 16 = true := by
  unfold roomB
  simp only [Bool.and_eq_true, decide_eq_true_eq]
  exact ⟨rfl, by omega⟩
theorem er_kb2 {r : AV × Objs} {l : List D} {K : Nat → List UInt8 → Option (AV × Objs)} (hl : isBy l = true) (h : EXR r fun n => K n (unB l)) : EXR r fun n => kBytes l (K n) := by
  have := er_kb h
  rw [← isBy_eq hl] at this
  exact this
theorem g7b : ∀ (rest pre : List D) (S : List Tx), (pre ++ rest).length ≤ 1000 → rest.all isBs = true → S.length = pre.length →
    Goes Γ (runS []) 7 5 ⟨[(0, .sl 39 .any (pre ++ rest)), (4, .ref 9 0), (5, .i .i64 (pre.length : Int))], [some (.arr 9 (strs S) false)]⟩ (.tuple [.sl 39 .any (pre ++ rest), .sl 9 .any (strs (S ++ lvs rest))], [])
  | [], pre, S, h1, h2, h3 => by
    refine Goes.er (er_of (fun k => w7_5b _ _ _ _) (er_f (decide_eq_false (by rw [List.append_nil]; omega)) (er_is ?_)))
    rw [show lvs [] = [] from rfl, List.append_nil, List.append_nil]
  | d :: rest, pre, S, h1, h2, h3 => by
    have h2 : isBs d = true ∧ rest.all isBs = true := by simpa using h2
    obtain ⟨c, x, rfl, hx⟩ := bs_ex h2.1
    have hl : (pre ++ D.slice c x :: rest).length = pre.length + (rest.length + 1) := by simp
    have w1 : IntKind.wrap .i64 ((pre.length : Int) + 1) = ((pre ++ [D.slice c x]).length : Int) := by rw [List.length_append, List.length_singleton, wrapI (by omega) (by omega)]; omega
    have hs : (strs S).length = S.length := by unfold strs; simp
    refine Goes.er (er_of (fun k => w7_5b _ _ _ _) (er_t (decide_eq_true (by omega)) (er_idx (by omega) (by rw [Int.toNat_natCast]; exact get_mid _ _ _) (er_sl (er_kb2 hx (er_t (room16 (by omega)) (er_lab ?_)))))))
    rw [w1]
    have ih := g7b rest (pre ++ [D.slice c x]) (S ++ [unB x]) (by simpa using h1) h2.2 (by simp [h3])
    rw [List.append_assoc, List.append_assoc, List.singleton_append] at ih
    rw [show strs S ++ [D.str (unB x)] = strs (S ++ [unB x]) by unfold strs; simp]
    exact ih
theorem g7 (l : List D) (h1 : l.length ≤ 1000) (h2 : l.all isBs = true) : ∃ v, (v = AV.tuple [.sl 39 .any l, .sl 9 .any (strs (lvs l))] ∨ v = AV.tuple [.sl 39 .any l, .sl 9 .ex (strs (lvs l))]) ∧ 
    Goes Γ (runS []) 7 5 ⟨[(0, .sl 39 .any l), (4, .sl 9 .ex []), (5, .i .i64 0)], []⟩ (v, []) := by
  cases l with
  | nil => exact ⟨_, .inr rfl, Goes.er (er_of (fun k => w7_5a _ _ _ _) (er_f rfl er_some))⟩
  | cons d rest =>
    refine ⟨_, .inl rfl, ?_⟩
    have h2 : isBs d = true ∧ rest.all isBs = true := by simpa using h2
    obtain ⟨c, x, rfl, hx⟩ := bs_ex h2.1
    have hl : (D.slice c x :: rest).length = rest.length + 1 := rfl
    refine Goes.er (er_of (fun k => w7_5a _ _ _ _) (er_t (decide_eq_true (by omega)) (er_idx (y := D.slice c x) (by omega) rfl (er_sl (er_kb2 hx (er_t rfl (er_lab ?_)))))))
    exact g7b rest [D.slice c x] [unB x] h1 h2.2 rfl
theorem spCut_ok : SpecOK Γ ⟨7, dat spCut⟩ := dat_ok fun args r hr => by
  unfold spCut at hr
  split at hr
  · rename_i c l
    simp only [Option.some.injEq, Prod.mk.injEq] at hr
    obtain ⟨h0, rfl⟩ := hr
    unfold cuC at h0
    simp only [Bool.and_eq_true, decide_eq_true_eq] at h0
    refine RetX.anyc ?_
    have hT : cuS l = strs (lvs (l.take 24)) := by unfold cuS; rw [lvs_take]
    rw [hT]
    obtain ⟨v, hv, k, hk⟩ := g7 (l.take 24) (by rw [List.length_take]; omega) (all_take 24 h0.1)
    have hr : RetX Γ 7 [.sl 39 .any l] [] v [] := by
      refine ret_goes (Γ := Γ) hP hZ none_ok (by kernel_rfl) ⟨k, ?_⟩
      rw [w7]
      by_cases hl : (l.length : Int) > 24
      · rw [decide_eq_true hl, decide_eq_true (by omega : (0 : Int) ≤ 24), decide_eq_true (by omega : (24 : Int) ≤ (l.length : Int)), List.drop_zero]
        exact hk
      · rw [decide_eq_false hl]
        rw [List.take_of_length_le (by omega)] at hk
        exact hk
    rcases hv with rfl | rfl
    · exact hr
    · exact RetX.wk hr (WkA.tuple (.cons (WkA.refl _) (.cons (WkA.sl _ _ _) .nil)))
  · cases hr
/-! ### what a path makes of a digest -/
theorem last_ex {l : List D} (h1 : isDs l = true) (h0 : 0 < l.length) : ∃ ys, l[l.length - 1]? = some (D.agg ys) ∧ isDg ys = true ∧ tkT (unDs l) = unB ys ∧ l.take (l.length - 1) = tkL l := by
  have hlt : l.length - 1 < l.length := by omega
  obtain ⟨ys, hy, hyd⟩ := isD1_eq (List.all_eq_true.1 (ds_ex h1).1 l[l.length - 1] (List.getElem_mem hlt))
  have hg : l[l.length - 1]? = some (D.agg ys) := by rw [List.getElem?_eq_getElem hlt, hy]
  refine ⟨ys, hg, hyd, ?_, ?_⟩
  · unfold tkT unDs
    rw [List.getLast?_map, List.getLast?_eq_getElem?, hg]; rfl
  · unfold tkL
    rw [List.dropLast_eq_take, unDs_len, show (unDs l).take (l.length - 1) = unDs (l.take (l.length - 1)) by unfold unDs; simp]
    exact (dgs_unD (all_take _ (ds_ex h1).1)).symm
theorem g19 {N : Nat} {n : Int} {s : Nat} {p y5 y6 : List D} {r : AV × Objs} (hs : s ≤ 1073741824) : ∀ (f k : Nat), 1 ≤ k → k ≤ 1073741824 → s ≤ k + f →
    (∀ k' : Nat, k' = splF f k s → s ≤ k' * 2 → k' ≤ 1073741824 → Goes Γ (W19 N) 19 4 ⟨[(1, .i .i64 n), (2, .i .i64 (s : Int)), (3, .sl 35 .any p), (4, .ptr 0 [] 35), (8, .ptr 1 [] 35), (9, .i .i64 (k' : Int))], [some (.box 35 (.d 35 (D.agg y5))), some (.box 35 (.d 35 (D.agg y6)))]⟩ r) →
    Goes Γ (W19 N) 19 4 ⟨[(1, .i .i64 n), (2, .i .i64 (s : Int)), (3, .sl 35 .any p), (4, .ptr 0 [] 35), (8, .ptr 1 [] 35), (9, .i .i64 (k : Int))], [some (.box 35 (.d 35 (D.agg y5))), some (.box 35 (.d 35 (D.agg y6)))]⟩ r
  | 0, k, h1, h2, h3, h => h k rfl (by omega) h2
  | f + 1, k, h1, h2, h3, h => by
    have w1 : IntKind.wrap .i64 ((k : Int) * 2) = ((k * 2 : Nat) : Int) := by rw [wrapI (by omega) (by omega)]; omega
    by_cases hk : k * 2 < s
    · refine Goes.er (er_of (fun q => w19_4a _ _ _ _ _ _ _ _) ?_)
      rw [w1]
      refine er_t (decide_eq_true (by omega)) (er_lab (g19 hs f (k * 2) (by omega) (by omega) (by omega) ?_))
      intro k' hk'
      refine h k' ?_
      rw [hk']
      simp only [splF]
      rw [decide_eq_true hk]; rfl
    · refine h k ?_ (by omega) h2
      simp only [splF]
      rw [decide_eq_false hk]; rfl
theorem lcC_ex {N : Nat} {d p : List D} {n s : Int} (h : lcC N d n s p = true) : clC N p false d n s = true ∧ clB p false d n s = false := by
  unfold lcC at h
  simpa using h
theorem spLC_ok : ∀ N, SpecOK Γ ⟨19, dat (spLC N)⟩
  | 0 => dat_ok fun args r hr => by
    unfold spLC at hr
    split at hr
    · simp only [Option.some.injEq, Prod.mk.injEq] at hr
      have := clC_ex (lcC_ex hr.1).1
      omega
    · cases hr
  | N + 1 => dat_ok fun args r hr => by
    have hW : CallsOK Γ (W19 N) := specs_ok (.cons spNode31_ok (.cons (spLC_ok N) .nil))
    unfold spLC at hr
    split at hr
    · rename_i d n s c l
      simp only [Option.some.injEq, Prod.mk.injEq] at hr
      obtain ⟨h0, rfl⟩ := hr
      obtain ⟨h0, hbad⟩ := lcC_ex h0
      obtain ⟨h1, h2, h3, h4, h5, h6⟩ := clC_ex h0
      obtain ⟨n, rfl⟩ : ∃ m : Nat, n = (m : Int) := ⟨n.toNat, by omega⟩
      obtain ⟨s, rfl⟩ : ∃ m : Nat, s = (m : Int) := ⟨s.toNat, by omega⟩
      have hd : bytesD (unB d) = d := (isBy_eq (dg_ex h2).1).symm
      refine RetX.args (args := [.d 35 (.agg d), .i .i64 (n : Int), .i .i64 (s : Int), .sl 35 .any l]) ?_ (.cons (WkA.refl _) (.cons (WkA.refl _) (.cons (WkA.refl _) (.cons (WkA.sl _ _ _) .nil))))
      by_cases hs1 : s = 1
      · subst hs1
        have hT : clT l false d (n : Int) ((1 : Nat) : Int) = (unB d, unDs l, false) := by
          unfold clT
          rw [Int.toNat_natCast, Int.toNat_natCast]
          exact climb_one _ _ _ _
        refine ret_goes (Γ := Γ) hP hZ hW (by kernel_rfl) ⟨0, ?_⟩
        unfold clD
        rw [w19, hT, hd]; rfl
      · have hs2 : 2 ≤ s := by omega
        obtain ⟨k1, k2⟩ := split_lt hs2
        have hT := climb_hi (unDs l) false (unB d) n hs2
        have hpos : 0 < l.length := by
          cases l with
          | cons a b => simp
          | nil =>
            exfalso
            have hb : (climbT (unDs []) false (unB d) n s).2.2 = true := by
              rw [hT]
              have e : (false || (unDs []).isEmpty) = true := rfl
              rw [e, climb_bad _ _ _ _ (by omega), climb_bad _ _ _ _ (by omega)]
              cases hc : decide (n < split s) <;> rfl
            have hbad : (climbT (unDs []) false (unB d) n s).2.2 = false := by
              have := hbad
              unfold clB clT at this
              rw [Int.toNat_natCast, Int.toNat_natCast] at this
              exact this
            rw [hb] at hbad
            cases hbad
        obtain ⟨ys, hg, hyd, hu, hL⟩ := last_ex h1 hpos
        have he : (false || (unDs l).isEmpty) = false := by
          rw [unDs_empty]
          cases l with
          | nil => simp at hpos
          | cons a b => rfl
        rw [he, cond_false] at hT
        have hlen := (ds_ex h1).2
        have w1 : IntKind.wrap .i64 ((l.length : Int) - 1) = ((l.length - 1 : Nat) : Int) := by rw [wrapI (by omega) (by omega)]; omega
        have hb' : (climbT (unDs l) false (unB d) n s).2.2 = false := by
          have := hbad
          unfold clB clT at this
          rw [Int.toNat_natCast, Int.toNat_natCast] at this
          exact this
        have : EXR (.d 35 (.agg (clD l false d (n : Int) (s : Int))), []) fun q => evF Γ (W19 N) (L Γ (W19 N) 19 q) 19 [.d 35 (.agg d), .i .i64 (n : Int), .i .i64 (s : Int), .sl 35 .any l] [] := by
          refine er_of (fun q => w19 _ _ _ _ _ _) (er_f (by rw [beq_eq_false_iff_ne]; omega) (er_lab ?_))
          refine g19 (s := s) (by omega) s 1 (by omega) (by omega) (by omega) fun k' hk' hle hk9 => ?_
          have hk' : k' = split s := hk'
          subst hk'
          refine Goes.er (er_of (fun q => w19_4a _ _ _ _ _ _ _ _) (er_f (decide_eq_false (by rw [wrapI (by omega) (by omega)]; omega)) ?_))
          rw [w1]
          simp only [Int.toNat_natCast]
          rw [cutT, hL]
          refine er_idx (by omega) (by rw [Int.toNat_natCast]; exact hg) (er_agg ?_)
          by_cases hn : n < split s
          · rw [decide_eq_true hn, cond_true] at hT
            have hc : clC N (tkL l) false d (n : Int) ((split s : Nat) : Int) = true := clC_of (tkL_ds h1) h2 (by omega) (by omega) (by omega) (by omega)
            have e : clT (tkL l) false d (n : Int) ((split s : Nat) : Int) = climbT (unDs l).dropLast false (unB d) n (split s) := by
              unfold clT
              rw [unDs_tkL, Int.toNat_natCast, Int.toNat_natCast]
            have hlc : lcC N d (n : Int) ((split s : Nat) : Int) (tkL l) = true := by
              unfold lcC
              rw [hc]
              unfold clB
              rw [e]
              rw [hT] at hb'
              show (!(climbT (unDs l).dropLast false (unB d) n (split s)).2.2) = true
              rw [show (climbT (unDs l).dropLast false (unB d) n (split s)).2.2 = false from hb']; rfl
            refine er_t (decide_eq_true (by omega)) (er_t (c_in (by omega)) (er_t hlc (er_t (by rw [cl_dg hc, hyd]; rfl) (er_is ?_))))
            unfold clD
            rw [e]
            unfold clT
            rw [Int.toNat_natCast, Int.toNat_natCast, hT, unB_bytesD, hu]
          · rw [decide_eq_false hn, cond_false] at hT
            have w2 : IntKind.wrap .i64 ((n : Int) - ((split s : Nat) : Int)) = ((n - split s : Nat) : Int) := by rw [wrapI (by omega) (by omega)]; omega
            have w3 : IntKind.wrap .i64 ((s : Int) - ((split s : Nat) : Int)) = ((s - split s : Nat) : Int) := by rw [wrapI (by omega) (by omega)]; omega
            have hc : clC N (tkL l) false d ((n - split s : Nat) : Int) ((s - split s : Nat) : Int) = true := clC_of (tkL_ds h1) h2 (by omega) (by omega) (by omega) (by omega)
            have e : clT (tkL l) false d ((n - split s : Nat) : Int) ((s - split s : Nat) : Int) = climbT (unDs l).dropLast false (unB d) (n - split s) (s - split s) := by
              unfold clT
              rw [unDs_tkL, Int.toNat_natCast, Int.toNat_natCast]
            have hlc : lcC N d ((n - split s : Nat) : Int) ((s - split s : Nat) : Int) (tkL l) = true := by
              unfold lcC
              rw [hc]
              unfold clB
              rw [e]
              rw [hT] at hb'
              show (!(climbT (unDs l).dropLast false (unB d) (n - split s) (s - split s)).2.2) = true
              rw [show (climbT (unDs l).dropLast false (unB d) (n - split s) (s - split s)).2.2 = false from hb']; rfl
            rw [w2, w3]
            refine er_f (decide_eq_false (by omega)) (er_t (c_in (by omega)) (er_t hlc (er_t (by rw [cl_dg hc, hyd]; rfl) (er_is ?_))))
            unfold clD
            rw [e]
            unfold clT
            rw [Int.toNat_natCast, Int.toNat_natCast, hT, unB_bytesD, hu]
        obtain ⟨k, hk⟩ := this
        exact ret_goes (Γ := Γ) hP hZ hW (by kernel_rfl) ⟨k, hk⟩
    · cases hr
end Go.Proofs.YtafmogdnhpnbiaaDoor.V

/- The laws and their awake: what the machine over values makes of them: equations, written by program. -/
namespace Go.Proofs.YtafmogdnhpnbiaaDoor.V
open Go
set_option maxRecDepth 100000
set_option linter.unusedVariables false
set_option linter.unusedSimpArgs false
def NN : Nat := 1000000
def W12 (N : Nat) : Handle := runS [⟨8, dat spPath⟩, ⟨9, dat spGrown⟩, ⟨14, dat (spRoot N)⟩, ⟨17, dat spVer⟩, ⟨18, dat spFol⟩]
theorem w12 (N : Nat) (lab : Lab) : evF Γ (W12 N) lab 12 [] [] =
  bif ptC [D.slice .any [D.int .u8 97], D.slice .any [D.int .u8 98], D.slice .any [D.int .u8 99]] then (bif ptC [D.slice .any [D.int .u8 97], D.slice .any [D.int .u8 98], D.slice .any [D.int .u8 99]] then (bif (ptE [D.slice .any [D.int .u8 97], D.slice .any [D.int .u8 98], D.slice .any [D.int .u8 99]] 2) == 0 then (bif (gwE [D.slice .any [D.int .u8 97], D.slice .any [D.int .u8 98], D.slice .any [D.int .u8 99]] 1) == 0 then (bif ((((ptR [D.slice .any [D.int .u8 97], D.slice .any [D.int .u8 98], D.slice .any [D.int .u8 99]] 2)).length : Int)) == 1 then (bif ((((gwR [D.slice .any [D.int .u8 97], D.slice .any [D.int .u8 98], D.slice .any [D.int .u8 99]] 1)).length : Int)) == 2 then (bif lvC N [D.slice .any [D.int .u8 97], D.slice .any [D.int .u8 98], D.slice .any [D.int .u8 99]] then (bif vfC ((bytesD (rootT (lvs [D.slice .any [D.int .u8 97], D.slice .any [D.int .u8 98], D.slice .any [D.int .u8 99]])))) [D.int .u8 99] 3 ((ptR [D.slice .any [D.int .u8 97], D.slice .any [D.int .u8 98], D.slice .any [D.int .u8 99]] 2)) then (bif vfB ((bytesD (rootT (lvs [D.slice .any [D.int .u8 97], D.slice .any [D.int .u8 98], D.slice .any [D.int .u8 99]])))) [D.int .u8 99] 2 3 ((ptR [D.slice .any [D.int .u8 97], D.slice .any [D.int .u8 98], D.slice .any [D.int .u8 99]] 2)) then (bif lvC N [D.slice .any [D.int .u8 97], D.slice .any [D.int .u8 98], D.slice .any [D.int .u8 99]] then (bif vfC ((bytesD (rootT (lvs [D.slice .any [D.int .u8 97], D.slice .any [D.int .u8 98], D.slice .any [D.int .u8 99]])))) [D.int .u8 99] 3 [] then (bif !(vfB ((bytesD (rootT (lvs [D.slice .any [D.int .u8 97], D.slice .any [D.int .u8 98], D.slice .any [D.int .u8 99]])))) [D.int .u8 99] 2 3 []) then (bif lvC N [D.slice .any [D.int .u8 97]] then (bif lvC N [D.slice .any [D.int .u8 97], D.slice .any [D.int .u8 98], D.slice .any [D.int .u8 99]] then (bif flC ((bytesD (rootT (lvs [D.slice .any [D.int .u8 97]])))) ((bytesD (rootT (lvs [D.slice .any [D.int .u8 97], D.slice .any [D.int .u8 98], D.slice .any [D.int .u8 99]])))) 3 ((gwR [D.slice .any [D.int .u8 97], D.slice .any [D.int .u8 98], D.slice .any [D.int .u8 99]] 1)) then (some (.b (flB ((bytesD (rootT (lvs [D.slice .any [D.int .u8 97]])))) 1 ((bytesD (rootT (lvs [D.slice .any [D.int .u8 97], D.slice .any [D.int .u8 98], D.slice .any [D.int .u8 99]])))) 3 ((gwR [D.slice .any [D.int .u8 97], D.slice .any [D.int .u8 98], D.slice .any [D.int .u8 99]] 1))), [])) else none) else none) else none) else (some (.b false, []))) else none) else none) else (some (.b false, []))) else none) else none) else (some (.b false, []))) else (some (.b false, []))) else (some (.b false, []))) else (some (.b false, []))) else none) else none := by kernel_rfl
def W6 : Handle := runS [⟨7, dat spCut⟩, ⟨8, dat spPath⟩, ⟨9, dat spGrown⟩, ⟨12, dat (sp0 true (.b true))⟩]
theorem w6 (lab : Lab) (l : List D) (n : Int) : evF Γ W6 lab 6 [.sl 39 .any l, .i .u8 n] [] =
  bif cuC l then (bif ((((List.take 24 l)).length : Int)) == 0 then (some (.b true, [])) else (lab (todoAt Γ 6 6) ⟨[(0, .sl 39 .any ((List.take 24 l))), (1, .i .u8 n), (5, .i .i64 0), (6, .i .i64 1)], []⟩)) else none := by kernel_rfl
theorem w6_6a (lab : Lab) (l1 : List D) (n2 : Int) (n3 : Int) (n4 : Int) : evL Γ W6 lab 6 6 ⟨[(0, .sl 39 .any l1), (1, .i .u8 n2), (5, .i .i64 n3), (6, .i .i64 n4)], []⟩ =
  bif decide (n4 < ((l1.length : Int))) then (lab (todoAt Γ 6 6) ⟨[(0, .sl 39 .any l1), (1, .i .u8 n2), (5, .i .i64 (IntKind.wrap .i64 (n3 + 1))), (6, .i .i64 (IntKind.wrap .i64 (n4 * 2)))], []⟩) else (bif ((l1.length : Int)) == 0 then none else (bif ptC l1 then (bif ((l1.length : Int)) == 0 then none else (bif ptC l1 then (bif true then (bif (ptE l1 (Int.tmod (IntKind.wrap .i64 n2) ((l1.length : Int)))) == 0 then (bif (gwE l1 (IntKind.wrap .i64 ((Int.tmod (IntKind.wrap .i64 n2) ((l1.length : Int))) + 1))) == 0 then (bif decide (((((ptR l1 (Int.tmod (IntKind.wrap .i64 n2) ((l1.length : Int))))).length : Int)) ≤ n3) then (some (.b (decide (((((gwR l1 (IntKind.wrap .i64 ((Int.tmod (IntKind.wrap .i64 n2) ((l1.length : Int))) + 1)))).length : Int)) ≤ (IntKind.wrap .i64 (n3 + 1)))), [])) else (some (.b false, []))) else (some (.b false, []))) else (some (.b false, []))) else (some (.b false, []))) else none)) else none)) := by kernel_rfl
def W3 (N : Nat) : Handle := runS [⟨7, dat spCut⟩, ⟨8, dat spPath⟩, ⟨9, dat spGrown⟩, ⟨10, dat spSame⟩, ⟨11, xRP N⟩, ⟨12, dat (sp0 true (.b true))⟩, ⟨13, xRG N⟩]
theorem w3 (N : Nat) (lab : Lab) (l : List D) (n : Int) : evF Γ (W3 N) lab 3 [.sl 39 .any l, .i .i64 n] [] =
  bif cuC l then (bif ptC ((List.take 24 l)) then (bif ptC ((List.take 24 l)) then (bif decide (n < 0) then (bif (ptE ((List.take 24 l)) n) != 1 then (some (.b false, [])) else (bif ((((ptR ((List.take 24 l)) n)).length : Int)) != 0 then (some (.b false, [])) else (bif decide (n < 1) then (bif true then (bif (gwE ((List.take 24 l)) n) == 1 then (some (.b (((((gwR ((List.take 24 l)) n)).length : Int)) == 0), [])) else (some (.b false, []))) else (some (.b false, []))) else (bif decide (n > ((((List.take 24 l)).length : Int))) then (bif true then (bif (gwE ((List.take 24 l)) n) == 1 then (some (.b (((((gwR ((List.take 24 l)) n)).length : Int)) == 0), [])) else (some (.b false, []))) else (some (.b false, []))) else (bif true then (bif (gwE ((List.take 24 l)) n) == 0 then (bif rgC N ((cuS l)) n then (bif isDs ((gwR ((List.take 24 l)) n)) && isDs ((dgs (grownT (unS ((cuS l))) (Int.toNat n) true))) then (some (.b (saB ((gwR ((List.take 24 l)) n)) ((dgs (grownT (unS ((cuS l))) (Int.toNat n) true)))), [])) else none) else none) else (some (.b false, []))) else (some (.b false, []))))))) else (bif decide (n ≥ ((((List.take 24 l)).length : Int))) then (bif (ptE ((List.take 24 l)) n) != 1 then (some (.b false, [])) else (bif ((((ptR ((List.take 24 l)) n)).length : Int)) != 0 then (some (.b false, [])) else (bif decide (n < 1) then (bif true then (bif (gwE ((List.take 24 l)) n) == 1 then (some (.b (((((gwR ((List.take 24 l)) n)).length : Int)) == 0), [])) else (some (.b false, []))) else (some (.b false, []))) else (bif decide (n > ((((List.take 24 l)).length : Int))) then (bif true then (bif (gwE ((List.take 24 l)) n) == 1 then (some (.b (((((gwR ((List.take 24 l)) n)).length : Int)) == 0), [])) else (some (.b false, []))) else (some (.b false, []))) else (bif true then (bif (gwE ((List.take 24 l)) n) == 0 then (bif rgC N ((cuS l)) n then (bif isDs ((gwR ((List.take 24 l)) n)) && isDs ((dgs (grownT (unS ((cuS l))) (Int.toNat n) true))) then (some (.b (saB ((gwR ((List.take 24 l)) n)) ((dgs (grownT (unS ((cuS l))) (Int.toNat n) true)))), [])) else none) else none) else (some (.b false, []))) else (some (.b false, []))))))) else (bif (ptE ((List.take 24 l)) n) != 0 then (some (.b false, [])) else (bif rpC N ((cuS l)) n then (bif isDs ((ptR ((List.take 24 l)) n)) && isDs ((dgs (pathT (unS ((cuS l))) (Int.toNat n)))) then (bif !(saB ((ptR ((List.take 24 l)) n)) ((dgs (pathT (unS ((cuS l))) (Int.toNat n))))) then (some (.b false, [])) else (bif decide (n < 1) then (bif true then (bif (gwE ((List.take 24 l)) n) == 1 then (some (.b (((((gwR ((List.take 24 l)) n)).length : Int)) == 0), [])) else (some (.b false, []))) else (some (.b false, []))) else (bif decide (n > ((((List.take 24 l)).length : Int))) then (bif true then (bif (gwE ((List.take 24 l)) n) == 1 then (some (.b (((((gwR ((List.take 24 l)) n)).length : Int)) == 0), [])) else (some (.b false, []))) else (some (.b false, []))) else (bif true then (bif (gwE ((List.take 24 l)) n) == 0 then (bif rgC N ((cuS l)) n then (bif isDs ((gwR ((List.take 24 l)) n)) && isDs ((dgs (grownT (unS ((cuS l))) (Int.toNat n) true))) then (some (.b (saB ((gwR ((List.take 24 l)) n)) ((dgs (grownT (unS ((cuS l))) (Int.toNat n) true)))), [])) else none) else none) else (some (.b false, []))) else (some (.b false, [])))))) else none) else none)))) else none) else none) else none := by kernel_rfl
def W4 (N : Nat) : Handle := runS [⟨7, dat spCut⟩, ⟨8, dat spPath⟩, ⟨9, dat spGrown⟩, ⟨12, dat (sp0 true (.b true))⟩, ⟨14, dat (spRoot N)⟩, ⟨15, dat spRef⟩, ⟨16, dat (spRR N)⟩, ⟨17, dat spVer⟩, ⟨18, dat spFol⟩, ⟨24, dat spSha⟩]
theorem w4 (N : Nat) (lab : Lab) (l : List D) (n : Int) : evF Γ (W4 N) lab 4 [.sl 39 .any l, .i .u8 n] [] =
  bif cuC l then (bif ((((List.take 24 l)).length : Int)) == 0 then (bif true then (bif lvC N ((List.take 24 l)) then (bif rfC [] then (some (.b (eqD (D.agg ((bytesD (rootT (lvs ((List.take 24 l))))))) (D.agg ((bytesD (shaT (unB [])))))), [])) else none) else none) else (some (.b false, []))) else (bif ((((List.take 24 l)).length : Int)) == 0 then none else (bif ptC ((List.take 24 l)) then (bif ptC ((List.take 24 l)) then (bif rrC N ((cuS l)) then (bif true then (bif (ptE ((List.take 24 l)) (Int.tmod (IntKind.wrap .i64 n) ((((List.take 24 l)).length : Int)))) == 0 then (bif (gwE ((List.take 24 l)) (IntKind.wrap .i64 ((Int.tmod (IntKind.wrap .i64 n) ((((List.take 24 l)).length : Int))) + 1))) == 0 then (idx ((List.take 24 l)) (Int.tmod (IntKind.wrap .i64 n) ((((List.take 24 l)).length : Int))) fun y1 => dSlice y1 fun c2 l3 => bif vfC ((bytesD (rootT (unS ((cuS l)))))) l3 ((((List.take 24 l)).length : Int)) ((ptR ((List.take 24 l)) (Int.tmod (IntKind.wrap .i64 n) ((((List.take 24 l)).length : Int))))) then (bif vfB ((bytesD (rootT (unS ((cuS l)))))) l3 (Int.tmod (IntKind.wrap .i64 n) ((((List.take 24 l)).length : Int))) ((((List.take 24 l)).length : Int)) ((ptR ((List.take 24 l)) (Int.tmod (IntKind.wrap .i64 n) ((((List.take 24 l)).length : Int))))) then (bif decide ((0:Int) ≤ (IntKind.wrap .i64 ((Int.tmod (IntKind.wrap .i64 n) ((((List.take 24 l)).length : Int))) + 1))) && decide ((IntKind.wrap .i64 ((Int.tmod (IntKind.wrap .i64 n) ((((List.take 24 l)).length : Int))) + 1)) ≤ (((cuS l)).length : Int)) then (bif rrC N (List.take ((Int.toNat (IntKind.wrap .i64 ((Int.tmod (IntKind.wrap .i64 n) ((((List.take 24 l)).length : Int))) + 1))) - 0) (List.drop 0 ((cuS l)))) then (bif flC ((bytesD (rootT (unS (List.take ((Int.toNat (IntKind.wrap .i64 ((Int.tmod (IntKind.wrap .i64 n) ((((List.take 24 l)).length : Int))) + 1))) - 0) (List.drop 0 ((cuS l)))))))) ((bytesD (rootT (unS ((cuS l)))))) ((((List.take 24 l)).length : Int)) ((gwR ((List.take 24 l)) (IntKind.wrap .i64 ((Int.tmod (IntKind.wrap .i64 n) ((((List.take 24 l)).length : Int))) + 1)))) then (some (.b (flB ((bytesD (rootT (unS (List.take ((Int.toNat (IntKind.wrap .i64 ((Int.tmod (IntKind.wrap .i64 n) ((((List.take 24 l)).length : Int))) + 1))) - 0) (List.drop 0 ((cuS l)))))))) (IntKind.wrap .i64 ((Int.tmod (IntKind.wrap .i64 n) ((((List.take 24 l)).length : Int))) + 1)) ((bytesD (rootT (unS ((cuS l)))))) ((((List.take 24 l)).length : Int)) ((gwR ((List.take 24 l)) (IntKind.wrap .i64 ((Int.tmod (IntKind.wrap .i64 n) ((((List.take 24 l)).length : Int))) + 1))))), [])) else none) else none) else none) else (some (.b false, []))) else none) else (some (.b false, []))) else (some (.b false, []))) else (some (.b false, []))) else none) else none) else none))) else none := by kernel_rfl
def W5 (N : Nat) : Handle := runS [⟨7, dat spCut⟩, ⟨11, xRP N⟩, ⟨12, dat (sp0 true (.b true))⟩, ⟨15, dat spRef⟩, ⟨16, dat (spRR N)⟩, ⟨17, dat spVer⟩, ⟨19, dat (spLC N)⟩]
theorem w5 (N : Nat) (lab : Lab) (l : List D) (n : Int) (ai : Int) (tn : Int) (d : List D) : evF Γ (W5 N) lab 5 [.sl 39 .any l, .i .u8 n, .i .u8 ai, .i .u8 tn, .d 35 (D.agg d)] [] =
  bif cuC l then (bif decide (((((List.take 24 l)).length : Int)) < 2) then (some (.b true, [])) else (bif ((((List.take 24 l)).length : Int)) == 0 then none else (bif rpC N ((cuS l)) (Int.tmod (IntKind.wrap .i64 n) ((((List.take 24 l)).length : Int))) then (bif rrC N ((cuS l)) then (onNil ((dgs (pathT (unS ((cuS l))) (Int.toNat (Int.tmod (IntKind.wrap .i64 n) ((((List.take 24 l)).length : Int))))))) (bif !true then (some (.b false, [])) else (idx ((List.take 24 l)) (Int.tmod (IntKind.wrap .i64 n) ((((List.take 24 l)).length : Int))) fun y1 => dSlice y1 fun c2 l3 => bif vfC ((bytesD (rootT (unS ((cuS l)))))) l3 ((((List.take 24 l)).length : Int)) [D.agg d] then (bif vfB ((bytesD (rootT (unS ((cuS l)))))) l3 (Int.tmod (IntKind.wrap .i64 n) ((((List.take 24 l)).length : Int))) ((((List.take 24 l)).length : Int)) [D.agg d] then (some (.b false, [])) else (idx ((List.take 24 l)) (Int.tmod (IntKind.wrap .i64 n) ((((List.take 24 l)).length : Int))) fun y4 => dSlice y4 fun c5 l6 => bif decide ((0:Int) ≤ (IntKind.wrap .i64 (((((dgs (pathT (unS ((cuS l))) (Int.toNat (Int.tmod (IntKind.wrap .i64 n) ((((List.take 24 l)).length : Int))))))).length : Int)) - 1))) && decide ((IntKind.wrap .i64 (((((dgs (pathT (unS ((cuS l))) (Int.toNat (Int.tmod (IntKind.wrap .i64 n) ((((List.take 24 l)).length : Int))))))).length : Int)) - 1)) ≤ (((dgs (pathT (unS ((cuS l))) (Int.toNat (Int.tmod (IntKind.wrap .i64 n) ((((List.take 24 l)).length : Int))))))).length : Int)) then (bif vfC ((bytesD (rootT (unS ((cuS l)))))) l6 ((((List.take 24 l)).length : Int)) (List.take ((Int.toNat (IntKind.wrap .i64 (((((dgs (pathT (unS ((cuS l))) (Int.toNat (Int.tmod (IntKind.wrap .i64 n) ((((List.take 24 l)).length : Int))))))).length : Int)) - 1))) - 0) (List.drop 0 ((dgs (pathT (unS ((cuS l))) (Int.toNat (Int.tmod (IntKind.wrap .i64 n) ((((List.take 24 l)).length : Int))))))))) then (bif vfB ((bytesD (rootT (unS ((cuS l)))))) l6 (Int.tmod (IntKind.wrap .i64 n) ((((List.take 24 l)).length : Int))) ((((List.take 24 l)).length : Int)) (List.take ((Int.toNat (IntKind.wrap .i64 (((((dgs (pathT (unS ((cuS l))) (Int.toNat (Int.tmod (IntKind.wrap .i64 n) ((((List.take 24 l)).length : Int))))))).length : Int)) - 1))) - 0) (List.drop 0 ((dgs (pathT (unS ((cuS l))) (Int.toNat (Int.tmod (IntKind.wrap .i64 n) ((((List.take 24 l)).length : Int))))))))) then (some (.b false, [])) else (idx ((List.take 24 l)) (Int.tmod (IntKind.wrap .i64 n) ((((List.take 24 l)).length : Int))) fun y7 => dSlice y7 fun c8 l9 => bif vfC ((bytesD (rootT (unS ((cuS l)))))) l9 ((((List.take 24 l)).length : Int)) ((dgs (pathT (unS ((cuS l))) (Int.toNat (Int.tmod (IntKind.wrap .i64 n) ((((List.take 24 l)).length : Int))))))) then (bif vfB ((bytesD (rootT (unS ((cuS l)))))) l9 ((-1)) ((((List.take 24 l)).length : Int)) ((dgs (pathT (unS ((cuS l))) (Int.toNat (Int.tmod (IntKind.wrap .i64 n) ((((List.take 24 l)).length : Int))))))) then (some (.b false, [])) else (idx ((List.take 24 l)) (Int.tmod (IntKind.wrap .i64 n) ((((List.take 24 l)).length : Int))) fun y10 => dSlice y10 fun c11 l12 => bif vfC ((bytesD (rootT (unS ((cuS l)))))) l12 ((((List.take 24 l)).length : Int)) ((dgs (pathT (unS ((cuS l))) (Int.toNat (Int.tmod (IntKind.wrap .i64 n) ((((List.take 24 l)).length : Int))))))) then (bif vfB ((bytesD (rootT (unS ((cuS l)))))) l12 ((((List.take 24 l)).length : Int)) ((((List.take 24 l)).length : Int)) ((dgs (pathT (unS ((cuS l))) (Int.toNat (Int.tmod (IntKind.wrap .i64 n) ((((List.take 24 l)).length : Int))))))) then (some (.b false, [])) else (bif roomB (0 + ((dgs (pathT (unS ((cuS l))) (Int.toNat (Int.tmod (IntKind.wrap .i64 n) ((((List.take 24 l)).length : Int))))))).length) 32 then (bif ((((dgs (pathT (unS ((cuS l))) (Int.toNat (Int.tmod (IntKind.wrap .i64 n) ((((List.take 24 l)).length : Int))))))).length : Int)) == 0 then none else (bif decide ((0:Int) ≤ (Int.tmod (IntKind.wrap .i64 ai) ((((dgs (pathT (unS ((cuS l))) (Int.toNat (Int.tmod (IntKind.wrap .i64 n) ((((List.take 24 l)).length : Int))))))).length : Int)))) && decide ((Int.tmod (IntKind.wrap .i64 ai) ((((dgs (pathT (unS ((cuS l))) (Int.toNat (Int.tmod (IntKind.wrap .i64 n) ((((List.take 24 l)).length : Int))))))).length : Int))) < (((dgs (pathT (unS ((cuS l))) (Int.toNat (Int.tmod (IntKind.wrap .i64 n) ((((List.take 24 l)).length : Int))))))).length : Int)) then (lGet ((dgs (pathT (unS ((cuS l))) (Int.toNat (Int.tmod (IntKind.wrap .i64 n) ((((List.take 24 l)).length : Int))))))) (Int.toNat (Int.tmod (IntKind.wrap .i64 ai) ((((dgs (pathT (unS ((cuS l))) (Int.toNat (Int.tmod (IntKind.wrap .i64 n) ((((List.take 24 l)).length : Int))))))).length : Int)))) fun y13 => dAgg y13 fun y14 => lGet y14 0 fun y15 => dInt .u8 y15 fun n16 => bif decide ((0:Int) ≤ (Int.tmod (IntKind.wrap .i64 ai) ((((dgs (pathT (unS ((cuS l))) (Int.toNat (Int.tmod (IntKind.wrap .i64 n) ((((List.take 24 l)).length : Int))))))).length : Int)))) && decide ((Int.tmod (IntKind.wrap .i64 ai) ((((dgs (pathT (unS ((cuS l))) (Int.toNat (Int.tmod (IntKind.wrap .i64 n) ((((List.take 24 l)).length : Int))))))).length : Int))) < (((dgs (pathT (unS ((cuS l))) (Int.toNat (Int.tmod (IntKind.wrap .i64 n) ((((List.take 24 l)).length : Int))))))).length : Int)) then (lGet ((dgs (pathT (unS ((cuS l))) (Int.toNat (Int.tmod (IntKind.wrap .i64 n) ((((List.take 24 l)).length : Int))))))) (Int.toNat (Int.tmod (IntKind.wrap .i64 ai) ((((dgs (pathT (unS ((cuS l))) (Int.toNat (Int.tmod (IntKind.wrap .i64 n) ((((List.take 24 l)).length : Int))))))).length : Int)))) fun y17 => idx ((cuS l)) (Int.tmod (IntKind.wrap .i64 n) ((((List.take 24 l)).length : Int))) fun y18 => dStr y18 fun s19 => bif decide (List.length ([0] : List UInt8) + List.length s19 ≤ maxStr) then (bif rfC (bytesD (([0] : List UInt8) ++ s19)) then (bif lcC N ((bytesD (shaT (unB (bytesD (([0] : List UInt8) ++ s19)))))) (Int.tmod (IntKind.wrap .i64 n) ((((List.take 24 l)).length : Int))) ((((List.take 24 l)).length : Int)) (List.set ((dgs (pathT (unS ((cuS l))) (Int.toNat (Int.tmod (IntKind.wrap .i64 n) ((((List.take 24 l)).length : Int))))))) (Int.toNat (Int.tmod (IntKind.wrap .i64 ai) ((((dgs (pathT (unS ((cuS l))) (Int.toNat (Int.tmod (IntKind.wrap .i64 n) ((((List.take 24 l)).length : Int))))))).length : Int)))) ((setD [0] y17 (D.int .u8 (IntKind.wrap .u8 ((BitVec.ofInt 8 n16 ^^^ BitVec.ofInt 8 tn).toNat : Int)))))) then (idx ((List.take 24 l)) (Int.tmod (IntKind.wrap .i64 n) ((((List.take 24 l)).length : Int))) fun y20 => dSlice y20 fun c21 l22 => bif vfC ((clD (List.set ((dgs (pathT (unS ((cuS l))) (Int.toNat (Int.tmod (IntKind.wrap .i64 n) ((((List.take 24 l)).length : Int))))))) (Int.toNat (Int.tmod (IntKind.wrap .i64 ai) ((((dgs (pathT (unS ((cuS l))) (Int.toNat (Int.tmod (IntKind.wrap .i64 n) ((((List.take 24 l)).length : Int))))))).length : Int)))) ((setD [0] y17 (D.int .u8 (IntKind.wrap .u8 ((BitVec.ofInt 8 n16 ^^^ BitVec.ofInt 8 tn).toNat : Int)))))) false ((bytesD (shaT (unB (bytesD (([0] : List UInt8) ++ s19)))))) (Int.tmod (IntKind.wrap .i64 n) ((((List.take 24 l)).length : Int))) ((((List.take 24 l)).length : Int)))) l22 ((((List.take 24 l)).length : Int)) (List.set ((dgs (pathT (unS ((cuS l))) (Int.toNat (Int.tmod (IntKind.wrap .i64 n) ((((List.take 24 l)).length : Int))))))) (Int.toNat (Int.tmod (IntKind.wrap .i64 ai) ((((dgs (pathT (unS ((cuS l))) (Int.toNat (Int.tmod (IntKind.wrap .i64 n) ((((List.take 24 l)).length : Int))))))).length : Int)))) ((setD [0] y17 (D.int .u8 (IntKind.wrap .u8 ((BitVec.ofInt 8 n16 ^^^ BitVec.ofInt 8 tn).toNat : Int)))))) then (bif vfB ((clD (List.set ((dgs (pathT (unS ((cuS l))) (Int.toNat (Int.tmod (IntKind.wrap .i64 n) ((((List.take 24 l)).length : Int))))))) (Int.toNat (Int.tmod (IntKind.wrap .i64 ai) ((((dgs (pathT (unS ((cuS l))) (Int.toNat (Int.tmod (IntKind.wrap .i64 n) ((((List.take 24 l)).length : Int))))))).length : Int)))) ((setD [0] y17 (D.int .u8 (IntKind.wrap .u8 ((BitVec.ofInt 8 n16 ^^^ BitVec.ofInt 8 tn).toNat : Int)))))) false ((bytesD (shaT (unB (bytesD (([0] : List UInt8) ++ s19)))))) (Int.tmod (IntKind.wrap .i64 n) ((((List.take 24 l)).length : Int))) ((((List.take 24 l)).length : Int)))) l22 (Int.tmod (IntKind.wrap .i64 n) ((((List.take 24 l)).length : Int))) ((((List.take 24 l)).length : Int)) (List.set ((dgs (pathT (unS ((cuS l))) (Int.toNat (Int.tmod (IntKind.wrap .i64 n) ((((List.take 24 l)).length : Int))))))) (Int.toNat (Int.tmod (IntKind.wrap .i64 ai) ((((dgs (pathT (unS ((cuS l))) (Int.toNat (Int.tmod (IntKind.wrap .i64 n) ((((List.take 24 l)).length : Int))))))).length : Int)))) ((setD [0] y17 (D.int .u8 (IntKind.wrap .u8 ((BitVec.ofInt 8 n16 ^^^ BitVec.ofInt 8 tn).toNat : Int)))))) then (idx ((List.take 24 l)) (Int.tmod (IntKind.wrap .i64 n) ((((List.take 24 l)).length : Int))) fun y23 => dSlice y23 fun c24 l25 => bif vfC ((bytesD (rootT (unS ((cuS l)))))) l25 ((((List.take 24 l)).length : Int)) (List.set ((dgs (pathT (unS ((cuS l))) (Int.toNat (Int.tmod (IntKind.wrap .i64 n) ((((List.take 24 l)).length : Int))))))) (Int.toNat (Int.tmod (IntKind.wrap .i64 ai) ((((dgs (pathT (unS ((cuS l))) (Int.toNat (Int.tmod (IntKind.wrap .i64 n) ((((List.take 24 l)).length : Int))))))).length : Int)))) ((setD [0] y17 (D.int .u8 (IntKind.wrap .u8 ((BitVec.ofInt 8 n16 ^^^ BitVec.ofInt 8 tn).toNat : Int)))))) then (some (.b ((vfB ((bytesD (rootT (unS ((cuS l)))))) l25 (Int.tmod (IntKind.wrap .i64 n) ((((List.take 24 l)).length : Int))) ((((List.take 24 l)).length : Int)) (List.set ((dgs (pathT (unS ((cuS l))) (Int.toNat (Int.tmod (IntKind.wrap .i64 n) ((((List.take 24 l)).length : Int))))))) (Int.toNat (Int.tmod (IntKind.wrap .i64 ai) ((((dgs (pathT (unS ((cuS l))) (Int.toNat (Int.tmod (IntKind.wrap .i64 n) ((((List.take 24 l)).length : Int))))))).length : Int)))) ((setD [0] y17 (D.int .u8 (IntKind.wrap .u8 ((BitVec.ofInt 8 n16 ^^^ BitVec.ofInt 8 tn).toNat : Int))))))) == (eqD (D.agg ((clD (List.set ((dgs (pathT (unS ((cuS l))) (Int.toNat (Int.tmod (IntKind.wrap .i64 n) ((((List.take 24 l)).length : Int))))))) (Int.toNat (Int.tmod (IntKind.wrap .i64 ai) ((((dgs (pathT (unS ((cuS l))) (Int.toNat (Int.tmod (IntKind.wrap .i64 n) ((((List.take 24 l)).length : Int))))))).length : Int)))) ((setD [0] y17 (D.int .u8 (IntKind.wrap .u8 ((BitVec.ofInt 8 n16 ^^^ BitVec.ofInt 8 tn).toNat : Int)))))) false ((bytesD (shaT (unB (bytesD (([0] : List UInt8) ++ s19)))))) (Int.tmod (IntKind.wrap .i64 n) ((((List.take 24 l)).length : Int))) ((((List.take 24 l)).length : Int))))) (D.agg ((bytesD (rootT (unS ((cuS l))))))))), [])) else none) else (some (.b false, []))) else none) else none) else none) else none) else none) else none)) else none)) else none)) else none)) else none) else none)) else none)) (bif roomB (0 + ((dgs (pathT (unS ((cuS l))) (Int.toNat (Int.tmod (IntKind.wrap .i64 n) ((((List.take 24 l)).length : Int))))))).length) 32 then (bif roomB (((dgs (pathT (unS ((cuS l))) (Int.toNat (Int.tmod (IntKind.wrap .i64 n) ((((List.take 24 l)).length : Int))))))).length + 1) 32 then (bif !true then (some (.b false, [])) else (idx ((List.take 24 l)) (Int.tmod (IntKind.wrap .i64 n) ((((List.take 24 l)).length : Int))) fun y26 => dSlice y26 fun c27 l28 => bif vfC ((bytesD (rootT (unS ((cuS l)))))) l28 ((((List.take 24 l)).length : Int)) (((dgs (pathT (unS ((cuS l))) (Int.toNat (Int.tmod (IntKind.wrap .i64 n) ((((List.take 24 l)).length : Int))))))) ++ [D.agg d]) then (bif vfB ((bytesD (rootT (unS ((cuS l)))))) l28 (Int.tmod (IntKind.wrap .i64 n) ((((List.take 24 l)).length : Int))) ((((List.take 24 l)).length : Int)) (((dgs (pathT (unS ((cuS l))) (Int.toNat (Int.tmod (IntKind.wrap .i64 n) ((((List.take 24 l)).length : Int))))))) ++ [D.agg d]) then (some (.b false, [])) else (idx ((List.take 24 l)) (Int.tmod (IntKind.wrap .i64 n) ((((List.take 24 l)).length : Int))) fun y29 => dSlice y29 fun c30 l31 => bif decide ((0:Int) ≤ (IntKind.wrap .i64 (((((dgs (pathT (unS ((cuS l))) (Int.toNat (Int.tmod (IntKind.wrap .i64 n) ((((List.take 24 l)).length : Int))))))).length : Int)) - 1))) && decide ((IntKind.wrap .i64 (((((dgs (pathT (unS ((cuS l))) (Int.toNat (Int.tmod (IntKind.wrap .i64 n) ((((List.take 24 l)).length : Int))))))).length : Int)) - 1)) ≤ (((dgs (pathT (unS ((cuS l))) (Int.toNat (Int.tmod (IntKind.wrap .i64 n) ((((List.take 24 l)).length : Int))))))).length : Int)) then (bif vfC ((bytesD (rootT (unS ((cuS l)))))) l31 ((((List.take 24 l)).length : Int)) (List.take ((Int.toNat (IntKind.wrap .i64 (((((dgs (pathT (unS ((cuS l))) (Int.toNat (Int.tmod (IntKind.wrap .i64 n) ((((List.take 24 l)).length : Int))))))).length : Int)) - 1))) - 0) (List.drop 0 ((dgs (pathT (unS ((cuS l))) (Int.toNat (Int.tmod (IntKind.wrap .i64 n) ((((List.take 24 l)).length : Int))))))))) then (bif vfB ((bytesD (rootT (unS ((cuS l)))))) l31 (Int.tmod (IntKind.wrap .i64 n) ((((List.take 24 l)).length : Int))) ((((List.take 24 l)).length : Int)) (List.take ((Int.toNat (IntKind.wrap .i64 (((((dgs (pathT (unS ((cuS l))) (Int.toNat (Int.tmod (IntKind.wrap .i64 n) ((((List.take 24 l)).length : Int))))))).length : Int)) - 1))) - 0) (List.drop 0 ((dgs (pathT (unS ((cuS l))) (Int.toNat (Int.tmod (IntKind.wrap .i64 n) ((((List.take 24 l)).length : Int))))))))) then (some (.b false, [])) else (idx ((List.take 24 l)) (Int.tmod (IntKind.wrap .i64 n) ((((List.take 24 l)).length : Int))) fun y32 => dSlice y32 fun c33 l34 => bif vfC ((bytesD (rootT (unS ((cuS l)))))) l34 ((((List.take 24 l)).length : Int)) ((dgs (pathT (unS ((cuS l))) (Int.toNat (Int.tmod (IntKind.wrap .i64 n) ((((List.take 24 l)).length : Int))))))) then (bif vfB ((bytesD (rootT (unS ((cuS l)))))) l34 ((-1)) ((((List.take 24 l)).length : Int)) ((dgs (pathT (unS ((cuS l))) (Int.toNat (Int.tmod (IntKind.wrap .i64 n) ((((List.take 24 l)).length : Int))))))) then (some (.b false, [])) else (idx ((List.take 24 l)) (Int.tmod (IntKind.wrap .i64 n) ((((List.take 24 l)).length : Int))) fun y35 => dSlice y35 fun c36 l37 => bif vfC ((bytesD (rootT (unS ((cuS l)))))) l37 ((((List.take 24 l)).length : Int)) ((dgs (pathT (unS ((cuS l))) (Int.toNat (Int.tmod (IntKind.wrap .i64 n) ((((List.take 24 l)).length : Int))))))) then (bif vfB ((bytesD (rootT (unS ((cuS l)))))) l37 ((((List.take 24 l)).length : Int)) ((((List.take 24 l)).length : Int)) ((dgs (pathT (unS ((cuS l))) (Int.toNat (Int.tmod (IntKind.wrap .i64 n) ((((List.take 24 l)).length : Int))))))) then (some (.b false, [])) else (bif roomB (0 + ((dgs (pathT (unS ((cuS l))) (Int.toNat (Int.tmod (IntKind.wrap .i64 n) ((((List.take 24 l)).length : Int))))))).length) 32 then (bif ((((dgs (pathT (unS ((cuS l))) (Int.toNat (Int.tmod (IntKind.wrap .i64 n) ((((List.take 24 l)).length : Int))))))).length : Int)) == 0 then none else (bif decide ((0:Int) ≤ (Int.tmod (IntKind.wrap .i64 ai) ((((dgs (pathT (unS ((cuS l))) (Int.toNat (Int.tmod (IntKind.wrap .i64 n) ((((List.take 24 l)).length : Int))))))).length : Int)))) && decide ((Int.tmod (IntKind.wrap .i64 ai) ((((dgs (pathT (unS ((cuS l))) (Int.toNat (Int.tmod (IntKind.wrap .i64 n) ((((List.take 24 l)).length : Int))))))).length : Int))) < (((dgs (pathT (unS ((cuS l))) (Int.toNat (Int.tmod (IntKind.wrap .i64 n) ((((List.take 24 l)).length : Int))))))).length : Int)) then (lGet ((dgs (pathT (unS ((cuS l))) (Int.toNat (Int.tmod (IntKind.wrap .i64 n) ((((List.take 24 l)).length : Int))))))) (Int.toNat (Int.tmod (IntKind.wrap .i64 ai) ((((dgs (pathT (unS ((cuS l))) (Int.toNat (Int.tmod (IntKind.wrap .i64 n) ((((List.take 24 l)).length : Int))))))).length : Int)))) fun y38 => dAgg y38 fun y39 => lGet y39 0 fun y40 => dInt .u8 y40 fun n41 => bif decide ((0:Int) ≤ (Int.tmod (IntKind.wrap .i64 ai) ((((dgs (pathT (unS ((cuS l))) (Int.toNat (Int.tmod (IntKind.wrap .i64 n) ((((List.take 24 l)).length : Int))))))).length : Int)))) && decide ((Int.tmod (IntKind.wrap .i64 ai) ((((dgs (pathT (unS ((cuS l))) (Int.toNat (Int.tmod (IntKind.wrap .i64 n) ((((List.take 24 l)).length : Int))))))).length : Int))) < (((dgs (pathT (unS ((cuS l))) (Int.toNat (Int.tmod (IntKind.wrap .i64 n) ((((List.take 24 l)).length : Int))))))).length : Int)) then (lGet ((dgs (pathT (unS ((cuS l))) (Int.toNat (Int.tmod (IntKind.wrap .i64 n) ((((List.take 24 l)).length : Int))))))) (Int.toNat (Int.tmod (IntKind.wrap .i64 ai) ((((dgs (pathT (unS ((cuS l))) (Int.toNat (Int.tmod (IntKind.wrap .i64 n) ((((List.take 24 l)).length : Int))))))).length : Int)))) fun y42 => idx ((cuS l)) (Int.tmod (IntKind.wrap .i64 n) ((((List.take 24 l)).length : Int))) fun y43 => dStr y43 fun s44 => bif decide (List.length ([0] : List UInt8) + List.length s44 ≤ maxStr) then (bif rfC (bytesD (([0] : List UInt8) ++ s44)) then (bif lcC N ((bytesD (shaT (unB (bytesD (([0] : List UInt8) ++ s44)))))) (Int.tmod (IntKind.wrap .i64 n) ((((List.take 24 l)).length : Int))) ((((List.take 24 l)).length : Int)) (List.set ((dgs (pathT (unS ((cuS l))) (Int.toNat (Int.tmod (IntKind.wrap .i64 n) ((((List.take 24 l)).length : Int))))))) (Int.toNat (Int.tmod (IntKind.wrap .i64 ai) ((((dgs (pathT (unS ((cuS l))) (Int.toNat (Int.tmod (IntKind.wrap .i64 n) ((((List.take 24 l)).length : Int))))))).length : Int)))) ((setD [0] y42 (D.int .u8 (IntKind.wrap .u8 ((BitVec.ofInt 8 n41 ^^^ BitVec.ofInt 8 tn).toNat : Int)))))) then (idx ((List.take 24 l)) (Int.tmod (IntKind.wrap .i64 n) ((((List.take 24 l)).length : Int))) fun y45 => dSlice y45 fun c46 l47 => bif vfC ((clD (List.set ((dgs (pathT (unS ((cuS l))) (Int.toNat (Int.tmod (IntKind.wrap .i64 n) ((((List.take 24 l)).length : Int))))))) (Int.toNat (Int.tmod (IntKind.wrap .i64 ai) ((((dgs (pathT (unS ((cuS l))) (Int.toNat (Int.tmod (IntKind.wrap .i64 n) ((((List.take 24 l)).length : Int))))))).length : Int)))) ((setD [0] y42 (D.int .u8 (IntKind.wrap .u8 ((BitVec.ofInt 8 n41 ^^^ BitVec.ofInt 8 tn).toNat : Int)))))) false ((bytesD (shaT (unB (bytesD (([0] : List UInt8) ++ s44)))))) (Int.tmod (IntKind.wrap .i64 n) ((((List.take 24 l)).length : Int))) ((((List.take 24 l)).length : Int)))) l47 ((((List.take 24 l)).length : Int)) (List.set ((dgs (pathT (unS ((cuS l))) (Int.toNat (Int.tmod (IntKind.wrap .i64 n) ((((List.take 24 l)).length : Int))))))) (Int.toNat (Int.tmod (IntKind.wrap .i64 ai) ((((dgs (pathT (unS ((cuS l))) (Int.toNat (Int.tmod (IntKind.wrap .i64 n) ((((List.take 24 l)).length : Int))))))).length : Int)))) ((setD [0] y42 (D.int .u8 (IntKind.wrap .u8 ((BitVec.ofInt 8 n41 ^^^ BitVec.ofInt 8 tn).toNat : Int)))))) then (bif vfB ((clD (List.set ((dgs (pathT (unS ((cuS l))) (Int.toNat (Int.tmod (IntKind.wrap .i64 n) ((((List.take 24 l)).length : Int))))))) (Int.toNat (Int.tmod (IntKind.wrap .i64 ai) ((((dgs (pathT (unS ((cuS l))) (Int.toNat (Int.tmod (IntKind.wrap .i64 n) ((((List.take 24 l)).length : Int))))))).length : Int)))) ((setD [0] y42 (D.int .u8 (IntKind.wrap .u8 ((BitVec.ofInt 8 n41 ^^^ BitVec.ofInt 8 tn).toNat : Int)))))) false ((bytesD (shaT (unB (bytesD (([0] : List UInt8) ++ s44)))))) (Int.tmod (IntKind.wrap .i64 n) ((((List.take 24 l)).length : Int))) ((((List.take 24 l)).length : Int)))) l47 (Int.tmod (IntKind.wrap .i64 n) ((((List.take 24 l)).length : Int))) ((((List.take 24 l)).length : Int)) (List.set ((dgs (pathT (unS ((cuS l))) (Int.toNat (Int.tmod (IntKind.wrap .i64 n) ((((List.take 24 l)).length : Int))))))) (Int.toNat (Int.tmod (IntKind.wrap .i64 ai) ((((dgs (pathT (unS ((cuS l))) (Int.toNat (Int.tmod (IntKind.wrap .i64 n) ((((List.take 24 l)).length : Int))))))).length : Int)))) ((setD [0] y42 (D.int .u8 (IntKind.wrap .u8 ((BitVec.ofInt 8 n41 ^^^ BitVec.ofInt 8 tn).toNat : Int)))))) then (idx ((List.take 24 l)) (Int.tmod (IntKind.wrap .i64 n) ((((List.take 24 l)).length : Int))) fun y48 => dSlice y48 fun c49 l50 => bif vfC ((bytesD (rootT (unS ((cuS l)))))) l50 ((((List.take 24 l)).length : Int)) (List.set ((dgs (pathT (unS ((cuS l))) (Int.toNat (Int.tmod (IntKind.wrap .i64 n) ((((List.take 24 l)).length : Int))))))) (Int.toNat (Int.tmod (IntKind.wrap .i64 ai) ((((dgs (pathT (unS ((cuS l))) (Int.toNat (Int.tmod (IntKind.wrap .i64 n) ((((List.take 24 l)).length : Int))))))).length : Int)))) ((setD [0] y42 (D.int .u8 (IntKind.wrap .u8 ((BitVec.ofInt 8 n41 ^^^ BitVec.ofInt 8 tn).toNat : Int)))))) then (some (.b ((vfB ((bytesD (rootT (unS ((cuS l)))))) l50 (Int.tmod (IntKind.wrap .i64 n) ((((List.take 24 l)).length : Int))) ((((List.take 24 l)).length : Int)) (List.set ((dgs (pathT (unS ((cuS l))) (Int.toNat (Int.tmod (IntKind.wrap .i64 n) ((((List.take 24 l)).length : Int))))))) (Int.toNat (Int.tmod (IntKind.wrap .i64 ai) ((((dgs (pathT (unS ((cuS l))) (Int.toNat (Int.tmod (IntKind.wrap .i64 n) ((((List.take 24 l)).length : Int))))))).length : Int)))) ((setD [0] y42 (D.int .u8 (IntKind.wrap .u8 ((BitVec.ofInt 8 n41 ^^^ BitVec.ofInt 8 tn).toNat : Int))))))) == (eqD (D.agg ((clD (List.set ((dgs (pathT (unS ((cuS l))) (Int.toNat (Int.tmod (IntKind.wrap .i64 n) ((((List.take 24 l)).length : Int))))))) (Int.toNat (Int.tmod (IntKind.wrap .i64 ai) ((((dgs (pathT (unS ((cuS l))) (Int.toNat (Int.tmod (IntKind.wrap .i64 n) ((((List.take 24 l)).length : Int))))))).length : Int)))) ((setD [0] y42 (D.int .u8 (IntKind.wrap .u8 ((BitVec.ofInt 8 n41 ^^^ BitVec.ofInt 8 tn).toNat : Int)))))) false ((bytesD (shaT (unB (bytesD (([0] : List UInt8) ++ s44)))))) (Int.tmod (IntKind.wrap .i64 n) ((((List.take 24 l)).length : Int))) ((((List.take 24 l)).length : Int))))) (D.agg ((bytesD (rootT (unS ((cuS l))))))))), [])) else none) else (some (.b false, []))) else none) else none) else none) else none) else none) else none)) else none)) else none)) else none)) else none) else none)) else none)) else none) else none)) else none) else none))) else none := by kernel_rfl
end Go.Proofs.YtafmogdnhpnbiaaDoor.V

/- The laws of proofs: awake; sizes; paths; verifications. -/
namespace Go.Proofs.YtafmogdnhpnbiaaDoor.V
open Go
set_option maxRecDepth 100000
set_option linter.unusedVariables false
set_option linter.unusedSimpArgs false
theorem unS_strs (l : List Tx) : unS (strs l) = l := by
  unfold unS strs
  rw [List.map_map]
  exact List.map_id' _
theorem cuS_eq (l : List D) : cuS l = strs (lvs (l.take 24)) := by unfold cuS; rw [lvs_take]
theorem unS_cuS (l : List D) : unS (cuS l) = lvs (l.take 24) := by rw [cuS_eq, unS_strs]
theorem cuS_len (l : List D) : (cuS l).length = (l.take 24).length := by rw [cuS_eq]; unfold strs; rw [List.length_map, lvs_len]
theorem strs_ok : ∀ {l : List D}, (catB l).length ≤ 1073741824 → (strs (lvs l)).all isStr = true
  | [], _ => rfl
  | d :: r, h => by
    have hc : catB (d :: r) = unBs d ++ catB r := rfl
    rw [hc, List.length_append] at h
    show (decide ((unBs d).length ≤ 1073741824) && (strs (lvs r)).all isStr) = true
    rw [decide_eq_true (by omega), strs_ok (by omega)]; rfl
theorem cuC_ex {l : List D} (h : cuC l = true) : l.all isBs = true ∧ (catB l).length + l.length ≤ 536870912 := by
  unfold cuC at h
  simpa using h
theorem lv_take {l : List D} (h : cuC l = true) {N : Nat} (hN : 24 < N) : lvC N (l.take 24) = true := by
  obtain ⟨h1, h2⟩ := cuC_ex h
  have := cat_parts l 24
  exact lvC_of (all_take 24 h1) (by rw [List.length_take]; omega) (by rw [List.length_take]; omega)
theorem rr_cuS {l : List D} (h : cuC l = true) {N : Nat} (hN : 24 < N) : rrC N (cuS l) = true := by
  obtain ⟨h1, h2⟩ := cuC_ex h
  have := cat_parts l 24
  have hl := cuS_len l
  rw [List.length_take] at hl
  refine rrC_of ?_ (by omega) (by omega)
  rw [cuS_eq]
  exact strs_ok (by omega)
theorem len24 (l : List D) : (l.take 24).length ≤ 24 := by rw [List.length_take]; omega
theorem mem_lf : ∀ {l : List D} {i : Nat} {c : Cp} {b : List D}, l.all isBs = true → (catB l).length ≤ 536870912 → l[i]? = some (.slice c b) → lfC b = true
  | [], i, c, b, _, _, h => by simp at h
  | d :: r, 0, c, b, h1, h2, h => by
    cases h
    have h1 : isBs (D.slice c b) = true ∧ r.all isBs = true := by simpa using h1
    have hc : catB (D.slice c b :: r) = unB b ++ catB r := rfl
    rw [hc, List.length_append, unB_len] at h2
    unfold lfC
    rw [show isBy b = true from h1.1, decide_eq_true (by omega)]; rfl
  | d :: r, i + 1, c, b, h1, h2, h => by
    have h1 : isBs d = true ∧ r.all isBs = true := by simpa using h1
    have hc : catB (d :: r) = unBs d ++ catB r := rfl
    rw [hc, List.length_append] at h2
    exact mem_lf h1.2 (by omega) (by simpa using h)
theorem get_bs {l : List D} {i : Nat} (h : l.all isBs = true) (hi : i < l.length) : ∃ c b, l[i]? = some (.slice c b) := by
  obtain ⟨c, b, e, _⟩ := bs_ex (List.all_eq_true.1 h l[i] (List.getElem_mem hi))
  exact ⟨c, b, by rw [List.getElem?_eq_getElem hi, e]⟩
theorem lvs_get {l : List D} {i : Nat} {c : Cp} {b : List D} (h : l[i]? = some (.slice c b)) : (lvs l)[i]? = some (unB b) := by
  unfold lvs
  rw [List.getElem?_map, h]; rfl
theorem root_dg (l : List Tx) : isDg (bytesD (rootT l)) = true := dg_of (rootT_len _)
theorem path_ds {l : List Tx} (i : Nat) (h : l.length ≤ 1000000) : isDs (dgs (pathT l i)) = true := by
  have := path_le l.length l i (Nat.le_refl _)
  exact isDs_dgs (path_all _ _ _ (Nat.le_refl _)) (by omega)
theorem grown_ds {l : List Tx} {m : Nat} (k : Bool) (h : l.length ≤ 1000000) (h1 : 1 ≤ m) (h2 : m ≤ l.length) : isDs (dgs (grownT l m k)) = true := by
  obtain ⟨a, b⟩ := grown_le l.length l m k (Nat.le_refl _) h1 h2
  exact isDs_dgs b (by omega)
theorem pt_in {l : List D} {i : Nat} (h : i < l.length) : ptE l (i : Int) = 0 ∧ ptR l (i : Int) = dgs (pathT (lvs l) i) := by
  unfold ptE ptR ptN
  rw [decide_eq_false (by omega), decide_eq_false (by omega), Int.toNat_natCast]
  exact ⟨rfl, rfl⟩
theorem pt_out {l : List D} {n : Int} (h : n < 0 ∨ n ≥ (l.length : Int)) : ptE l n = 1 ∧ ptR l n = [] := by
  have : ptN l n = true := by
    unfold ptN
    rcases h with h | h
    · rw [decide_eq_true h]; rfl
    · rw [decide_eq_true h]; exact Bool.or_true _
  unfold ptE ptR
  rw [this]
  exact ⟨rfl, rfl⟩
theorem gw_in {l : List D} {i : Nat} (h1 : 1 ≤ i) (h : i ≤ l.length) : gwE l (i : Int) = 0 ∧ gwR l (i : Int) = dgs (grownT (lvs l) i true) := by
  unfold gwE gwR gwN
  rw [decide_eq_false (by omega), decide_eq_false (by omega), Int.toNat_natCast]
  exact ⟨rfl, rfl⟩
theorem gw_out {l : List D} {n : Int} (h : n < 1 ∨ n > (l.length : Int)) : gwE l n = 1 ∧ gwR l n = [] := by
  have : gwN l n = true := by
    unfold gwN
    rcases h with h | h
    · rw [decide_eq_true h]; rfl
    · rw [decide_eq_true h]; exact Bool.or_true _
  unfold gwE gwR
  rw [this]
  exact ⟨rfl, rfl⟩
/-- a path verifies -/
theorem ver_yes {l : List D} {i : Nat} {c : Cp} {b : List D} (h : l[i]? = some (.slice c b)) : vfB (bytesD (rootT (lvs l))) b (i : Int) (l.length : Int) (dgs (pathT (lvs l) i)) = true := by
  have hi : i < l.length := by
    rcases Nat.lt_or_ge i l.length with h' | h'
    · exact h'
    · rw [List.getElem?_eq_none h'] at h; cases h
  have hc := path_climb _ (lvs l) i [] (unB b) (Nat.le_refl _) (lvs_get h)
  rw [List.nil_append, lvs_len] at hc
  unfold vfB
  rw [decide_eq_false (by omega), decide_eq_false (by omega), Bool.or_false, cond_false, unDs_dgs, Int.toNat_natCast, Int.toNat_natCast, hc, unB_bytesD]
  unfold vfT
  simp
theorem ver_c {l : List D} {b p : List D} (hl : l.length ≤ 1000) (hb : lfC b = true) (hp : isDs p = true) : vfC (bytesD (rootT (lvs l))) b (l.length : Int) p = true := by
  unfold vfC
  rw [root_dg, hb, hp, decide_eq_true (by omega)]; rfl
/-- a growth follows -/
theorem fol_yes {l : List D} {m : Nat} (h1 : 1 ≤ m) (h2 : m ≤ l.length) : flB (bytesD (rootT ((lvs l).take m))) (m : Int) (bytesD (rootT (lvs l))) (l.length : Int) (dgs (grownT (lvs l) m true)) = true := by
  have hb := grown_both _ (lvs l) m true [] (rootT ((lvs l).take m)) (Nat.le_refl _) h1 (by rw [lvs_len]; exact h2) (fun _ => rfl)
  rw [List.nil_append, lvs_len] at hb
  unfold flB
  rw [decide_eq_false (by omega), decide_eq_false (by omega), Bool.or_false, cond_false, unDs_dgs, unB_bytesD, unB_bytesD, Int.toNat_natCast, Int.toNat_natCast, hb]
  unfold flT
  simp
theorem fol_c {l : List D} {o : List Tx} {p : List D} (hl : l.length ≤ 1000) (hp : isDs p = true) : flC (bytesD (rootT o)) (bytesD (rootT (lvs l))) (l.length : Int) p = true := by
  unfold flC
  rw [root_dg, root_dg, hp, decide_eq_true (by omega)]; rfl
/-! ### awake -/
theorem W12_ok (N : Nat) : CallsOK Γ (W12 N) := specs_ok (.cons spPath_ok (.cons spGrown_ok (.cons (spRoot_ok N) (.cons spVer_ok (.cons spFol_ok .nil)))))
def abc : List D := [D.slice .any [D.int .u8 97], D.slice .any [D.int .u8 98], D.slice .any [D.int .u8 99]]
theorem c12 (_ : true = true) : RetX Γ 12 [] [] (.b true) [] := by
  refine ret_goes (Γ := Γ) hP hZ (W12_ok 100) (by kernel_rfl) ⟨0, ?_⟩
  rw [w12]
  change (bif ptC abc then (bif ptC abc then (bif (ptE abc ((2 : Nat) : Int)) == 0 then (bif (gwE abc ((1 : Nat) : Int)) == 0 then (bif ((((ptR abc ((2 : Nat) : Int))).length : Int)) == 1 then (bif ((((gwR abc ((1 : Nat) : Int))).length : Int)) == 2 then (bif lvC 100 abc then
    (bif vfC (bytesD (rootT (lvs abc))) [D.int .u8 99] (abc.length : Int) (ptR abc ((2 : Nat) : Int)) then (bif vfB (bytesD (rootT (lvs abc))) [D.int .u8 99] ((2 : Nat) : Int) (abc.length : Int) (ptR abc ((2 : Nat) : Int)) then (bif lvC 100 abc then
    (bif vfC (bytesD (rootT (lvs abc))) [D.int .u8 99] (abc.length : Int) [] then (bif !(vfB (bytesD (rootT (lvs abc))) [D.int .u8 99] 2 3 []) then (bif lvC 100 (abc.take 1) then (bif lvC 100 abc then (bif flC (bytesD (rootT ((lvs abc).take 1))) (bytesD (rootT (lvs abc))) (abc.length : Int) (gwR abc ((1 : Nat) : Int)) then
    (some (AV.b (flB (bytesD (rootT ((lvs abc).take 1))) ((1 : Nat) : Int) (bytesD (rootT (lvs abc))) (abc.length : Int) (gwR abc ((1 : Nat) : Int))), ([] : Objs))) else none) else none) else none) else (some (.b false, []))) else none) else none) else (some (.b false, []))) else none) else none) else (some (.b false, []))) else (some (.b false, []))) else (some (.b false, []))) else (some (.b false, []))) else none) else none) = _
  obtain ⟨e1, e2⟩ := pt_in (l := abc) (i := 2) (by decide)
  obtain ⟨e3, e4⟩ := gw_in (l := abc) (i := 1) (by decide) (by decide)
  have a1 : ptC abc = true := by kernel_rfl
  have a2 : lvC 100 abc = true := by kernel_rfl
  have a3 : lvC 100 (abc.take 1) = true := by kernel_rfl
  have a4 : (((dgs (pathT (lvs abc) 2)).length : Int) == 1) = true := by kernel_rfl
  have a5 : (((dgs (grownT (lvs abc) 1 true)).length : Int) == 2) = true := by kernel_rfl
  have a6 : (!(vfB (bytesD (rootT (lvs abc))) [D.int .u8 99] 2 3 [])) = true := by kernel_rfl
  have b1 : lfC [D.int .u8 99] = true := by kernel_rfl
  have p1 := path_ds (l := lvs abc) 2 (by decide)
  have p2 := grown_ds (l := lvs abc) (m := 1) true (by decide) (by decide) (by decide)
  rw [e1, e2, e3, e4, a1, a2, a3, a4, a5, a6, ver_c (by decide) b1 p1, ver_c (by decide) b1 (show isDs [] = true from rfl), ver_yes (l := abc) (i := 2) (c := .any) rfl, fol_c (by decide) p2, fol_yes (l := abc) (m := 1) (by decide) (by decide)]
  rfl
theorem awake_ok : SpecOK Γ ⟨12, dat (sp0 true (.b true))⟩ := sp0_ok c12
/-! ### sizes -/
theorem W6_ok : CallsOK Γ W6 := specs_ok (.cons spCut_ok (.cons spPath_ok (.cons spGrown_ok (.cons awake_ok .nil))))
theorem nm {n : Int} {m : Nat} (h0 : 0 ≤ n) (h1 : n < 256) (hm : 1 ≤ m) : ∃ i : Nat, Int.tmod (IntKind.wrap .i64 n) (m : Int) = (i : Int) ∧ i < m := by
  obtain ⟨N, rfl⟩ : ∃ N : Nat, n = (N : Int) := ⟨n.toNat, by omega⟩
  have := Nat.mod_lt N (show 0 < m by omega)
  refine ⟨N % m, ?_, this⟩
  rw [wrapI (by omega) (by omega), Int.tmod_eq_emod_of_nonneg (by omega)]
  omega
theorem g6 (L : List D) (n : Int) (h0 : 0 ≤ n) (h1 : n < 256) (hp : ptC L = true) (hl : 1 ≤ L.length) (hl2 : L.length ≤ 24) : ∀ (f d : Nat), L.length ≤ 2 ^ d + f → 2 ^ d ≤ 100 → d ≤ 100 →
    Goes Γ W6 6 6 ⟨[(0, .sl 39 .any L), (1, .i .u8 n), (5, .i .i64 (d : Int)), (6, .i .i64 ((2 ^ d : Nat) : Int))], []⟩ (.b true, [])
  | f, d, h2, h3, h4 => by
    by_cases c : 2 ^ d < L.length
    · cases f with
      | zero => omega
      | succ f =>
        have hp1 : 1 ≤ 2 ^ d := Nat.one_le_two_pow
        have e : 2 ^ (d + 1) = 2 ^ d * 2 := Nat.pow_succ ..
        have hd : d ≤ 5 := by
          rcases Nat.lt_or_ge 5 d with h | h
          · have := Nat.pow_le_pow_right (n := 2) (by omega) h
            have : (2 : Nat) ^ (5 + 1) = 64 := rfl
            omega
          · exact h
        have w1 : IntKind.wrap .i64 ((d : Int) + 1) = ((d + 1 : Nat) : Int) := by rw [wrapI (by omega) (by omega)]; omega
        have w2 : IntKind.wrap .i64 (((2 ^ d : Nat) : Int) * 2) = ((2 ^ (d + 1) : Nat) : Int) := by rw [e, wrapI (by omega) (by omega)]; omega
        refine Goes.er (er_of (fun q => w6_6a _ _ _ _ _) ?_)
        rw [w1, w2]
        exact er_t (decide_eq_true (by omega)) (er_lab (g6 L n h0 h1 hp hl hl2 f (d + 1) (by omega) (by omega) (by omega)))
    · refine Goes.er (er_of (fun q => w6_6a _ _ _ _ _) (er_f (decide_eq_false (by omega)) ?_))
      obtain ⟨i, ei, hi⟩ := nm h0 h1 hl
      have w3 : IntKind.wrap .i64 ((i : Int) + 1) = ((i + 1 : Nat) : Int) := by rw [wrapI (by omega) (by omega)]; omega
      have w4 : IntKind.wrap .i64 ((d : Int) + 1) = (d : Int) + 1 := wrapI (by omega) (by omega)
      obtain ⟨e1, e2⟩ := pt_in hi
      obtain ⟨e3, e4⟩ := gw_in (l := L) (i := i + 1) (by omega) (by omega)
      have k1 := path_deep d (lvs L) i (by rw [lvs_len]; omega)
      have k2 := grown_deep d (lvs L) (i + 1) true (by rw [lvs_len]; omega) (by omega) (by rw [lvs_len]; omega)
      rw [ei, w3, w4, e1, e2, e3, e4, hp, dgs_len, dgs_len, show (((L.length : Int)) == 0) = false by rw [beq_eq_false_iff_ne]; omega, decide_eq_true (show ((pathT (lvs L) i).length : Int) ≤ (d : Int) by omega), decide_eq_true (show ((grownT (lvs L) (i + 1) true).length : Int) ≤ (d : Int) + 1 by omega)]
      exact er_is rfl
theorem law6 {l : List D} {n : Int} (hc : cuC l = true) (h0 : 0 ≤ n) (h1 : n < 256) : RetX Γ 6 [.sl 39 .any l, .i .u8 n] [] (.b true) [] := by
  have : EXR (.b true, []) fun q => evF Γ W6 (L Γ W6 6 q) 6 [.sl 39 .any l, .i .u8 n] [] := by
    refine er_of (fun q => w6 _ _ _) (er_t hc (er_if (fun c => er_some) (fun c => er_lab ?_)))
    rw [beq_eq_false_iff_ne] at c
    have hl := len24 l
    exact g6 (l.take 24) n h0 h1 (lv_take hc (by omega)) (by omega) hl 24 0 (by omega) (by omega) (by omega)
  obtain ⟨k, hk⟩ := this
  exact ret_goes (Γ := Γ) hP hZ W6_ok (by kernel_rfl) ⟨k, hk⟩
/-! ### paths -/
theorem W3_ok (N : Nat) : CallsOK Γ (W3 N) := specs_ok (.cons spCut_ok (.cons spPath_ok (.cons spGrown_ok (.cons spSame_ok (.cons (xRP_ok N) (.cons awake_ok (.cons (xRG_ok N) .nil)))))))
theorem sa_self (a : List D) : saB a a = true := beq_self_eq_true _
theorem law3 {l : List D} {n : Int} (hc : cuC l = true) : RetX Γ 3 [.sl 39 .any l, .i .i64 n] [] (.b true) [] := by
  refine ret_goes (Γ := Γ) hP hZ (W3_ok 100) (by kernel_rfl) ⟨0, ?_⟩
  have hl := len24 l
  have hp : ptC (l.take 24) = true := lv_take hc (by omega)
  rw [w3, hc, hp, unS_cuS]
  have hll : (lvs (l.take 24)).length ≤ 1000000 := by rw [lvs_len]; omega
  by_cases g1 : n < 1
  · obtain ⟨a, b⟩ := gw_out (l := l.take 24) (.inl g1)
    rw [decide_eq_true g1, a, b]
    by_cases p1 : n < 0
    · obtain ⟨a, b⟩ := pt_out (l := l.take 24) (.inl p1)
      rw [decide_eq_true p1, a, b]; rfl
    · by_cases p2 : n ≥ ((l.take 24).length : Int)
      · obtain ⟨a, b⟩ := pt_out (l := l.take 24) (.inr p2)
        rw [decide_eq_false p1, decide_eq_true p2, a, b]; rfl
      · obtain ⟨i, rfl⟩ : ∃ i : Nat, n = (i : Int) := ⟨n.toNat, by omega⟩
        obtain ⟨a, b⟩ := pt_in (l := l.take 24) (i := i) (by omega)
        rw [decide_eq_false p1, decide_eq_false p2, a, b, Int.toNat_natCast, rpC_of (rr_cuS hc (by omega)) (by omega) (by rw [cuS_len]; omega), path_ds i hll, sa_self]; rfl
  · by_cases g2 : n > ((l.take 24).length : Int)
    · obtain ⟨a, b⟩ := gw_out (l := l.take 24) (.inr g2)
      obtain ⟨a', b'⟩ := pt_out (l := l.take 24) (n := n) (.inr (by omega))
      rw [decide_eq_false g1, decide_eq_true g2, a, b, decide_eq_false (show ¬ n < 0 by omega), decide_eq_true (show n ≥ ((l.take 24).length : Int) by omega), a', b']; rfl
    · obtain ⟨i, rfl⟩ : ∃ i : Nat, n = (i : Int) := ⟨n.toNat, by omega⟩
      obtain ⟨a, b⟩ := gw_in (l := l.take 24) (i := i) (by omega) (by omega)
      rw [decide_eq_false g1, decide_eq_false g2, a, b, decide_eq_false (show ¬ (i : Int) < 0 by omega), Int.toNat_natCast, rgC_of (rr_cuS hc (by omega)) (by omega) (by rw [cuS_len]; omega), grown_ds true hll (by omega) (by rw [lvs_len]; omega), sa_self]
      by_cases p2 : (i : Int) ≥ ((l.take 24).length : Int)
      · obtain ⟨a, b⟩ := pt_out (l := l.take 24) (.inr p2)
        rw [decide_eq_true p2, a, b]; rfl
      · obtain ⟨a, b⟩ := pt_in (l := l.take 24) (i := i) (by omega)
        rw [decide_eq_false p2, a, b, rpC_of (rr_cuS hc (by omega)) (by omega) (by rw [cuS_len]; omega), path_ds i hll, sa_self]; rfl
/-! ### verifications -/
theorem W4_ok (N : Nat) : CallsOK Γ (W4 N) := specs_ok (.cons spCut_ok (.cons spPath_ok (.cons spGrown_ok (.cons awake_ok (.cons (spRoot_ok N) (.cons spRef_ok (.cons (spRR_ok N) (.cons spVer_ok (.cons spFol_ok (.cons spSha_ok .nil))))))))))
theorem law4 {l : List D} {n : Int} (hc : cuC l = true) (h0 : 0 ≤ n) (h1 : n < 256) : RetX Γ 4 [.sl 39 .any l, .i .u8 n] [] (.b true) [] := by
  have hl := len24 l
  have hp : ptC (l.take 24) = true := lv_take hc (by omega)
  have : EXR (.b true, []) fun q => evF Γ (W4 100) (L Γ (W4 100) 4 q) 4 [.sl 39 .any l, .i .u8 n] [] := by
    refine er_of (fun q => w4 _ _ _ _) (er_t hc (er_if (fun c => ?_) (fun c => ?_)))
    · rw [beq_iff_eq] at c
      have h0 : l.take 24 = [] := List.eq_nil_of_length_eq_zero (by omega)
      rw [h0]
      refine er_t rfl (er_t rfl (er_t rfl (er_is ?_)))
      have : eqD (D.agg (bytesD (rootT (lvs [])))) (D.agg (bytesD (shaT (unB [])))) = true := by
        rw [eqD_bb]
        exact beq_self_eq_true _
      rw [this]
    · have c' := c
      rw [beq_eq_false_iff_ne] at c'
      obtain ⟨i, ei, hi⟩ := nm h0 h1 (show 1 ≤ (l.take 24).length by omega)
      have w3 : IntKind.wrap .i64 ((i : Int) + 1) = ((i + 1 : Nat) : Int) := by rw [wrapI (by omega) (by omega)]; omega
      obtain ⟨e1, e2⟩ := pt_in hi
      obtain ⟨e3, e4⟩ := gw_in (l := l.take 24) (i := i + 1) (by omega) (by omega)
      obtain ⟨b1, b2, _⟩ := lvC_ex hp
      obtain ⟨cp, b, hb⟩ := get_bs b1 hi
      have hlf := mem_lf b1 (by omega) hb
      have hll : (lvs (l.take 24)).length ≤ 1000000 := by rw [lvs_len]; omega
      have hcut : List.take ((i + 1) - 0) (List.drop 0 (cuS l)) = strs ((lvs (l.take 24)).take (i + 1)) := by
        rw [cutT, cuS_eq]; unfold strs; rw [List.map_take]
      have hrr : rrC 100 (strs ((lvs (l.take 24)).take (i + 1))) = true := by
        rw [← hcut, cutT]
        obtain ⟨q1, q2, q3⟩ := rrC_ex (rr_cuS hc (N := 100) (by omega))
        exact rrC_of (all_take _ q1) (by rw [List.length_take]; omega) (by rw [List.length_take]; omega)
      rw [ei, w3, e1, e2, e3, e4, Int.toNat_natCast, hcut, unS_cuS, unS_strs]
      refine er_f c (er_t hp (er_t hp (er_t (rr_cuS hc (by omega)) (er_t rfl (er_t rfl (er_t rfl (er_idx (by omega) (by rw [Int.toNat_natCast]; exact hb) (er_sl (er_t (ver_c (by omega) hlf (path_ds i hll)) (er_t (ver_yes hb) ?_))))))))))
      refine er_t (by rw [cuS_len, decide_eq_true (by omega), decide_eq_true (by omega)]; rfl) (er_t hrr (er_t (fol_c (by omega) (grown_ds true hll (by omega) (by rw [lvs_len]; omega))) (er_is ?_)))
      rw [fol_yes (by omega) (by omega)]
  obtain ⟨k, hk⟩ := this
  exact ret_goes (Γ := Γ) hP hZ (W4_ok 100) (by kernel_rfl) ⟨k, hk⟩
end Go.Proofs.YtafmogdnhpnbiaaDoor.V

/- The laws of proofs: others. -/
namespace Go.Proofs.YtafmogdnhpnbiaaDoor.V
open Go
set_option maxRecDepth 100000
set_option linter.unusedVariables false
set_option linter.unusedSimpArgs false
theorem vfB_eq {R b : List D} {i m : Nat} {p : List Tx} (hi : i < m) : vfB R b (i : Int) (m : Int) (dgs p) = vfT (unB R) (climbT p false (leafT (unB b)) i m) := by
  unfold vfB
  rw [decide_eq_false (by omega), decide_eq_false (by omega), unDs_dgs, Int.toNat_natCast, Int.toNat_natCast]; rfl
theorem vf_more {R : Tx} {x : Tx × List Tx × Bool} (h : x.2.1.length ≠ 0) : vfT R x = false := by
  unfold vfT
  cases hx : x.2.1 with
  | nil => rw [hx] at h; exact absurd rfl h
  | cons a r => cases x.2.2 <;> rfl
theorem vf_bad {R : Tx} {x : Tx × List Tx × Bool} (h : x.2.2 = true) : vfT R x = false := by
  unfold vfT
  rw [h]; rfl
theorem vf_eq {R : Tx} {x : Tx × List Tx × Bool} (h : x.2.1.length = 0) (h2 : x.2.2 = false) : vfT R x = (x.1 == R) := by
  unfold vfT
  rw [List.eq_nil_of_length_eq_zero h, h2]; rfl
def byU (x : Int) : UInt8 := UInt8.ofNat (IntKind.wrap .u8 x).toNat
theorem byU_eq (x : Int) : D.int .u8 ((byU x).toNat : Int) = D.int .u8 (IntKind.wrap .u8 x) := by
  have := wu8 x
  unfold byU
  congr 1
  rw [UInt8.toNat_ofNat']
  omega
theorem setB (q : Tx) (x : Int) : setD [0] (D.agg (bytesD q)) (D.int .u8 (IntKind.wrap .u8 x)) = D.agg (bytesD (q.set 0 (byU x))) := by
  show D.agg ((bytesD q).set 0 (D.int .u8 (IntKind.wrap .u8 x))) = _
  rw [← byU_eq]
  unfold bytesD
  rw [List.map_set]
theorem set_dgs (Q : List Tx) (j : Nat) (q : Tx) : (dgs Q).set j (D.agg (bytesD q)) = dgs (Q.set j q) := by unfold dgs; rw [List.map_set]
theorem allT_set {Q : List Tx} {j : Nat} {q : Tx} (h : allT Q) (hq : q.length = 32) : allT (Q.set j q) := fun t ht => by
  rcases List.mem_or_eq_of_mem_set ht with h' | h'
  · exact h t h'
  · rw [h']; exact hq
theorem dgs_get {Q : List Tx} {j : Nat} (h : j < Q.length) : (dgs Q)[j]? = some (D.agg (bytesD Q[j])) := by
  unfold dgs
  rw [List.getElem?_map, List.getElem?_eq_getElem h]; rfl
theorem W5_ok (N : Nat) : CallsOK Γ (W5 N) := specs_ok (.cons spCut_ok (.cons (xRP_ok N) (.cons awake_ok (.cons spRef_ok (.cons (spRR_ok N) (.cons spVer_ok (.cons (spLC_ok N) .nil)))))))
theorem law5 {l d : List D} {n a x : Int} (hc : cuC l = true) (h0 : 0 ≤ n) (h1 : n < 256) (g0 : 0 ≤ a) (g1 : a < 256) (hd : isDg d = true) : RetX Γ 5 [.sl 39 .any l, .i .u8 n, .i .u8 a, .i .u8 x, .d 35 (.agg d)] [] (.b true) [] := by
  have hl := len24 l
  have hp : ptC (l.take 24) = true := lv_take hc (by omega)
  have : EXR (.b true, []) fun q => evF Γ (W5 100) (L Γ (W5 100) 5 q) 5 [.sl 39 .any l, .i .u8 n, .i .u8 a, .i .u8 x, .d 35 (.agg d)] [] := by
    refine er_of (fun q => w5 _ _ _ _ _ _ _) (er_t hc (er_if (fun c => er_some) (fun c => ?_)))
    have c := of_decide_eq_false c
    obtain ⟨i, ei, hi⟩ := nm h0 h1 (show 1 ≤ (l.take 24).length by omega)
    obtain ⟨b1, b2, _⟩ := lvC_ex hp
    obtain ⟨cp, b, hb⟩ := get_bs b1 hi
    have hlf := mem_lf b1 (by omega) hb
    have hlv : (lvs (l.take 24)).length = (l.take 24).length := lvs_len _
    have hll : (lvs (l.take 24)).length ≤ 1000000 := by omega
    rw [ei, Int.toNat_natCast, unS_cuS]
    have hQ1 := path_pos (l := lvs (l.take 24)) i (by omega)
    have hQ2 := path_all _ (lvs (l.take 24)) i (Nat.le_refl _)
    have hQ3 := path_le _ (lvs (l.take 24)) i (Nat.le_refl _)
    have hCL := climb_len (lvs (l.take 24)).length (lvs (l.take 24)) i
    have hbi : ∀ q : Nat, (l.take 24)[((i : Nat) : Int).toNat]? = some (.slice cp b) := fun _ => by rw [Int.toNat_natCast]; exact hb
    generalize hQ : pathT (lvs (l.take 24)) i = Q at hQ1 hQ2 hQ3 hCL
    have hlen : (dgs Q).length = Q.length := dgs_len Q
    have hdsQ : isDs (dgs Q) = true := isDs_dgs hQ2 (by omega)
    have hroom : roomB (0 + (dgs Q).length) 32 = true := room32 (by omega)
    have hroom2 : roomB ((dgs Q).length + 1) 32 = true := room32 (by omega)
    have edd : D.agg d = D.agg (bytesD (unB d)) := by rw [← isBy_eq (dg_ex hd).1]
    have elong : dgs Q ++ [D.agg d] = dgs (Q ++ [unB d]) := by rw [dgs_app, edd]; rfl
    have along : allT (Q ++ [unB d]) := fun t ht => by
      rcases List.mem_append.1 ht with ht | ht
      · exact hQ2 t ht
      · rw [List.mem_singleton.1 ht, unB_len]; exact (dg_ex hd).2
    have dlong : isDs (dgs (Q ++ [unB d])) = true := isDs_dgs along (by rw [List.length_append, List.length_singleton]; omega)
    have w1 : IntKind.wrap .i64 (((dgs Q).length : Int) - 1) = ((Q.length - 1 : Nat) : Int) := by rw [hlen, wrapI (by omega) (by omega)]; omega
    have eshort : List.take ((Q.length - 1) - 0) (List.drop 0 (dgs Q)) = dgs (Q.take (Q.length - 1)) := by rw [cutT]; unfold dgs; rw [List.map_take]
    have dshort : isDs (dgs (Q.take (Q.length - 1))) = true := isDs_dgs (fun t ht => hQ2 t (List.mem_of_mem_take ht)) (by rw [List.length_take]; omega)
    have hm : (l.take 24).length = (lvs (l.take 24)).length := hlv.symm
    have nlong : vfB (bytesD (rootT (lvs (l.take 24)))) b (i : Int) ((l.take 24).length : Int) (dgs (Q ++ [unB d])) = false := by
      rw [vfB_eq hi, hm]
      obtain ⟨k, _⟩ := (hCL (Q ++ [unB d]) (leafT (unB b)) (Nat.le_refl _) (by omega) (by omega)).1 (by rw [List.length_append]; omega)
      exact vf_more (by rw [k, List.length_append, List.length_singleton]; omega)
    have nshort : vfB (bytesD (rootT (lvs (l.take 24)))) b (i : Int) ((l.take 24).length : Int) (dgs (Q.take (Q.length - 1))) = false := by
      rw [vfB_eq hi, hm]
      exact vf_bad ((hCL (Q.take (Q.length - 1)) (leafT (unB b)) (Nat.le_refl _) (by omega) (by omega)).2 (by rw [List.length_take]; omega))
    have nneg : vfB (bytesD (rootT (lvs (l.take 24)))) b (-1) ((l.take 24).length : Int) (dgs Q) = false := rfl
    have nbig : vfB (bytesD (rootT (lvs (l.take 24)))) b ((l.take 24).length : Int) ((l.take 24).length : Int) (dgs Q) = false := by
      unfold vfB
      rw [decide_eq_true (Int.le_refl _), Bool.or_true]; rfl
    obtain ⟨j, ej, hj⟩ := nm g0 g1 hQ1
    rw [hlen, ej, ← hlen, w1, elong]
    simp only [Int.toNat_natCast]
    rw [eshort]
    have hcj : (decide ((0 : Int) ≤ (j : Int)) && decide ((j : Int) < ((dgs Q).length : Int))) = true := by rw [hlen, decide_eq_true (by omega), decide_eq_true (by omega)]; rfl
    refine er_f (by rw [beq_eq_false_iff_ne]; omega) (er_t (rpC_of (rr_cuS hc (by omega)) (by omega) (by rw [cuS_len]; omega)) (er_t (rr_cuS hc (by omega)) (er_onnil (fun h => ?_) (fun _ => ?_))))
    · have := congrArg List.length h
      rw [hlen] at this
      rw [this] at hQ1
      exact absurd hQ1 (by simp)
    refine er_t hroom (er_t hroom2 (er_f rfl (er_idx (by omega) (hbi 0) (er_sl (er_t (ver_c (by omega) hlf dlong) (er_f nlong (er_idx (by omega) (hbi 0) (er_sl ?_))))))))
    refine er_t (by rw [hlen, decide_eq_true (by omega), decide_eq_true (by omega)]; rfl) (er_t (ver_c (by omega) hlf dshort) (er_f nshort (er_idx (by omega) (hbi 0) (er_sl (er_t (ver_c (by omega) hlf hdsQ) (er_f nneg (er_idx (by omega) (hbi 0) (er_sl (er_t (ver_c (by omega) hlf hdsQ) (er_f nbig ?_))))))))))
    have hq32 : (Q[j]'hj).length = 32 := hQ2 _ (List.getElem_mem hj)
    refine er_t hroom (er_f (by rw [beq_eq_false_iff_ne, hlen]; omega) (er_t hcj (er_get (dgs_get hj) (er_agg ?_))))
    obtain ⟨z, zr, hz⟩ : ∃ z zr, Q[j]'hj = z :: zr := by
      cases hq : Q[j]'hj with
      | nil => rw [hq] at hq32; cases hq32
      | cons z zr => exact ⟨z, zr, rfl⟩
    refine er_get (y := D.int .u8 (z.toNat : Int)) (by rw [hz]; rfl) (er_c (er_t hcj (er_get (dgs_get hj) ?_)))
    have hsi : (cuS l)[((i : Nat) : Int).toNat]? = some (D.str (unB b)) := by
      rw [Int.toNat_natCast, cuS_eq]
      unfold strs
      rw [List.getElem?_map, lvs_get hb]; rfl
    have hbl : b.length ≤ 536870912 := by
      unfold lfC at hlf
      simp only [Bool.and_eq_true, decide_eq_true_eq] at hlf
      exact hlf.2
    have hbl2 : (unB b).length ≤ 536870912 := by rw [unB_len]; exact hbl
    refine er_idx (by omega) hsi (er_s (er_t (decide_eq_true (by show 1 + (unB b).length ≤ 4611686018427387904; omega)) (er_t ?_ ?_)))
    · unfold rfC
      rw [isBy_bytesD, bytesD_len, List.length_append, decide_eq_true (by show 1 + (unB b).length ≤ 1099511627776; omega)]; rfl
    rw [setB, set_dgs, unB_bytesD, show shaT (([0] : List UInt8) ++ unB b) = leafT (unB b) from rfl]
    generalize hQ' : Q.set j ((Q[j]'hj).set 0 (byU ((BitVec.ofInt 8 (z.toNat : Int) ^^^ BitVec.ofInt 8 x).toNat : Int))) = Q'
    have hQl : Q'.length = Q.length := by rw [← hQ', List.length_set]
    have hQa : allT Q' := by rw [← hQ']; exact allT_set hQ2 (by rw [List.length_set]; exact hq32)
    have hdsQ' : isDs (dgs Q') = true := isDs_dgs hQa (by omega)
    obtain ⟨k1, k2⟩ := (hCL Q' (leafT (unB b)) (Nat.le_refl _) (by omega) (by omega)).1 (by omega)
    rw [hlv] at k1 k2
    have hT : clT (dgs Q') false (bytesD (leafT (unB b))) (i : Int) ((l.take 24).length : Int) = climbT Q' false (leafT (unB b)) i (l.take 24).length := by
      unfold clT
      rw [unDs_dgs, unB_bytesD, Int.toNat_natCast, Int.toNat_natCast]
    have hcl : clC 100 (dgs Q') false (bytesD (leafT (unB b))) (i : Int) ((l.take 24).length : Int) = true := clC_of hdsQ' (dg_of (leafT_len _)) (by omega) (by omega) (by omega) (by omega)
    have hlc : lcC 100 (bytesD (leafT (unB b))) (i : Int) ((l.take 24).length : Int) (dgs Q') = true := by
      unfold lcC
      rw [hcl]
      unfold clB
      rw [hT, k2]; rfl
    have hmd : isDg (clD (dgs Q') false (bytesD (leafT (unB b))) (i : Int) ((l.take 24).length : Int)) = true := cl_dg hcl
    have hM : clD (dgs Q') false (bytesD (leafT (unB b))) (i : Int) ((l.take 24).length : Int) = bytesD (climbT Q' false (leafT (unB b)) i (l.take 24).length).1 := by
      unfold clD
      rw [hT]
    rw [hM] at hmd
    rw [hM]
    have hv1 : vfC (bytesD (climbT Q' false (leafT (unB b)) i (l.take 24).length).1) b ((l.take 24).length : Int) (dgs Q') = true := by
      unfold vfC
      rw [hmd, hlf, hdsQ', decide_eq_true (by omega)]; rfl
    have hv2 : vfB (bytesD (climbT Q' false (leafT (unB b)) i (l.take 24).length).1) b (i : Int) ((l.take 24).length : Int) (dgs Q') = true := by
      rw [vfB_eq hi, unB_bytesD, vf_eq (by omega) k2]
      exact beq_self_eq_true _
    refine er_t hlc (er_idx (by omega) (hbi 0) (er_sl (er_t hv1 (er_t hv2 (er_idx (by omega) (hbi 0) (er_sl (er_t (ver_c (by omega) hlf hdsQ') (er_is ?_))))))))
    rw [vfB_eq hi, unB_bytesD, vf_eq (by omega) k2, eqD_bb, beq_self_eq_true]
  obtain ⟨k, hk⟩ := this
  exact ret_goes (Γ := Γ) hP hZ (W5_ok 100) (by kernel_rfl) ⟨k, hk⟩
end Go.Proofs.YtafmogdnhpnbiaaDoor.V
