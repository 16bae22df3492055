/- Dates: the laws of moments behind one another. Residuals are written by program. -/
import Derived.Test.YtlmdkclchjcapaaDoorWhI
namespace Go.Proofs.YtlmdkclchjcapaaDoor.V
open Go
set_option maxRecDepth 100000
set_option linter.unusedVariables false
set_option linter.unusedSimpArgs false
variable {u : Bool} {mx : Int}
def H6 : Handle := runS [⟨10, dat (spDt secA)⟩, ⟨12, dat (spI1 i64B fldA)⟩, ⟨16, dat (sp0 true (.b true))⟩, ⟨17, dat (spI1 i64B txtA)⟩, ⟨19, dat (sp1 (fun _ => true) parA)⟩]
theorem r6 (lab : Lab) (n : Int) : evF (Γ u mx) H6 lab 6 [.i .u64 n] [] =
  bif i64B (IntKind.wrap .i64 ((IntKind.wrap .i64 (Int.tmod n 315537897600)) - 62135596800)) then (bif i64B (IntKind.wrap .i64 ((IntKind.wrap .i64 (Int.tmod n 315537897600)) - 62135596800)) then (bif (fE (IntKind.wrap .i64 ((IntKind.wrap .i64 (Int.tmod n 315537897600)) - 62135596800))) != 0 then (some (.b false, [])) else (bif (secE (fY (IntKind.wrap .i64 ((IntKind.wrap .i64 (Int.tmod n 315537897600)) - 62135596800))) (fMo (IntKind.wrap .i64 ((IntKind.wrap .i64 (Int.tmod n 315537897600)) - 62135596800))) (fD (IntKind.wrap .i64 ((IntKind.wrap .i64 (Int.tmod n 315537897600)) - 62135596800))) (fH (IntKind.wrap .i64 ((IntKind.wrap .i64 (Int.tmod n 315537897600)) - 62135596800))) (fMi (IntKind.wrap .i64 ((IntKind.wrap .i64 (Int.tmod n 315537897600)) - 62135596800))) (fS (IntKind.wrap .i64 ((IntKind.wrap .i64 (Int.tmod n 315537897600)) - 62135596800)))) != 0 then (some (.b false, [])) else (bif (fE (IntKind.wrap .i64 ((IntKind.wrap .i64 (Int.tmod n 315537897600)) - 62135596800))) != 0 then (some (.b false, [])) else (bif (parE (textS (IntKind.wrap .i64 ((IntKind.wrap .i64 (Int.tmod n 315537897600)) - 62135596800)))) != 0 then (some (.b false, [])) else (bif (secZ (fY (IntKind.wrap .i64 ((IntKind.wrap .i64 (Int.tmod n 315537897600)) - 62135596800))) (fMo (IntKind.wrap .i64 ((IntKind.wrap .i64 (Int.tmod n 315537897600)) - 62135596800))) (fD (IntKind.wrap .i64 ((IntKind.wrap .i64 (Int.tmod n 315537897600)) - 62135596800))) (fH (IntKind.wrap .i64 ((IntKind.wrap .i64 (Int.tmod n 315537897600)) - 62135596800))) (fMi (IntKind.wrap .i64 ((IntKind.wrap .i64 (Int.tmod n 315537897600)) - 62135596800))) (fS (IntKind.wrap .i64 ((IntKind.wrap .i64 (Int.tmod n 315537897600)) - 62135596800)))) != (IntKind.wrap .i64 ((IntKind.wrap .i64 (Int.tmod n 315537897600)) - 62135596800)) then (some (.b false, [])) else (bif (parV (textS (IntKind.wrap .i64 ((IntKind.wrap .i64 (Int.tmod n 315537897600)) - 62135596800)))) != (IntKind.wrap .i64 ((IntKind.wrap .i64 (Int.tmod n 315537897600)) - 62135596800)) then (some (.b false, [])) else (bif ((List.length (textS (IntKind.wrap .i64 ((IntKind.wrap .i64 (Int.tmod n 315537897600)) - 62135596800))) : Int)) != 20 then (some (.b false, [])) else (bif i64B (IntKind.wrap .i64 ((IntKind.wrap .i64 ((IntKind.wrap .i64 (Int.tmod n 315537897600)) - 62135596800)) + 1)) then (bif (IntKind.wrap .i64 ((IntKind.wrap .i64 (Int.tmod n 315537897600)) - 62135596800)) == 253402300799 then (some (.b ((fE (IntKind.wrap .i64 ((IntKind.wrap .i64 ((IntKind.wrap .i64 (Int.tmod n 315537897600)) - 62135596800)) + 1))) == 4), [])) else (bif i64B (IntKind.wrap .i64 ((IntKind.wrap .i64 ((IntKind.wrap .i64 (Int.tmod n 315537897600)) - 62135596800)) + 1)) then (bif (fE (IntKind.wrap .i64 ((IntKind.wrap .i64 ((IntKind.wrap .i64 (Int.tmod n 315537897600)) - 62135596800)) + 1))) == 0 then (bif (fE (IntKind.wrap .i64 ((IntKind.wrap .i64 ((IntKind.wrap .i64 (Int.tmod n 315537897600)) - 62135596800)) + 1))) == 0 then (bif !(lessB (textS (IntKind.wrap .i64 ((IntKind.wrap .i64 ((IntKind.wrap .i64 (Int.tmod n 315537897600)) - 62135596800)) + 1))) (textS (IntKind.wrap .i64 ((IntKind.wrap .i64 (Int.tmod n 315537897600)) - 62135596800))) || (textS (IntKind.wrap .i64 ((IntKind.wrap .i64 ((IntKind.wrap .i64 (Int.tmod n 315537897600)) - 62135596800)) + 1))) == (textS (IntKind.wrap .i64 ((IntKind.wrap .i64 (Int.tmod n 315537897600)) - 62135596800)))) then (bif (fS (IntKind.wrap .i64 ((IntKind.wrap .i64 ((IntKind.wrap .i64 (Int.tmod n 315537897600)) - 62135596800)) + 1))) == (IntKind.wrap .i64 ((fS (IntKind.wrap .i64 ((IntKind.wrap .i64 (Int.tmod n 315537897600)) - 62135596800))) + 1)) then (some (.b true, [])) else (bif (fS (IntKind.wrap .i64 ((IntKind.wrap .i64 ((IntKind.wrap .i64 (Int.tmod n 315537897600)) - 62135596800)) + 1))) == 0 then (some (.b ((fS (IntKind.wrap .i64 ((IntKind.wrap .i64 (Int.tmod n 315537897600)) - 62135596800))) == 59), [])) else (some (.b false, [])))) else (some (.b false, []))) else (some (.b false, []))) else (some (.b false, []))) else none)) else none)))))))) else none) else none := by kernel_rfl
theorem h6_ok : CallsOK (Γ u mx) H6 := specs_ok (.cons (spDt_ok c10) (.cons (spI1_ok c12) (.cons (sp0_ok fun _ => c16) (.cons (spI1_ok c17) (.cons (sp1_ok c19) .nil)))))
def H7 : Handle := runS [⟨12, dat (spI1 i64B fldA)⟩, ⟨14, dat (spI1 i64B wdA)⟩, ⟨16, dat (sp0 true (.b true))⟩, ⟨21, dat (spI2 i64B2 fun t n => .i .i64 (daysZ t n))⟩]
theorem r7 (lab : Lab) (n : Int) (a : Int) (b : Int) : evF (Γ u mx) H7 lab 7 [.i .u64 n, .i .u16 a, .i .u16 b] [] =
  bif i64B2 (IntKind.wrap .i64 ((IntKind.wrap .i64 (Int.tmod n 315537897600)) - 62135596800)) 7 then (bif i64B2 (IntKind.wrap .i64 ((IntKind.wrap .i64 (Int.tmod n 315537897600)) - 62135596800)) (IntKind.wrap .i64 a) then (bif i64B2 (daysZ (IntKind.wrap .i64 ((IntKind.wrap .i64 (Int.tmod n 315537897600)) - 62135596800)) (IntKind.wrap .i64 a)) (IntKind.wrap .i64 b) then (bif i64B2 (IntKind.wrap .i64 ((IntKind.wrap .i64 (Int.tmod n 315537897600)) - 62135596800)) (IntKind.wrap .i64 ((IntKind.wrap .i64 a) + (IntKind.wrap .i64 b))) then (bif (daysZ (daysZ (IntKind.wrap .i64 ((IntKind.wrap .i64 (Int.tmod n 315537897600)) - 62135596800)) (IntKind.wrap .i64 a)) (IntKind.wrap .i64 b)) != (daysZ (IntKind.wrap .i64 ((IntKind.wrap .i64 (Int.tmod n 315537897600)) - 62135596800)) (IntKind.wrap .i64 ((IntKind.wrap .i64 a) + (IntKind.wrap .i64 b)))) then (some (.b false, [])) else (bif i64B2 (IntKind.wrap .i64 ((IntKind.wrap .i64 (Int.tmod n 315537897600)) - 62135596800)) ((-7)) then (bif decide ((daysZ (IntKind.wrap .i64 ((IntKind.wrap .i64 (Int.tmod n 315537897600)) - 62135596800)) ((-7))) > (IntKind.wrap .i64 ((IntKind.wrap .i64 (Int.tmod n 315537897600)) - 62135596800))) then (some (.b false, [])) else (bif (IntKind.wrap .i64 ((daysZ (IntKind.wrap .i64 ((IntKind.wrap .i64 (Int.tmod n 315537897600)) - 62135596800)) 7) - (IntKind.wrap .i64 ((IntKind.wrap .i64 (Int.tmod n 315537897600)) - 62135596800)))) != 604800 then (some (.b ((daysZ (IntKind.wrap .i64 ((IntKind.wrap .i64 (Int.tmod n 315537897600)) - 62135596800)) 7) == 253402300799), [])) else (bif i64B (IntKind.wrap .i64 ((IntKind.wrap .i64 (Int.tmod n 315537897600)) - 62135596800)) then (bif i64B (daysZ (IntKind.wrap .i64 ((IntKind.wrap .i64 (Int.tmod n 315537897600)) - 62135596800)) 7) then (bif i64B (IntKind.wrap .i64 ((IntKind.wrap .i64 (Int.tmod n 315537897600)) - 62135596800)) then (bif i64B (daysZ (IntKind.wrap .i64 ((IntKind.wrap .i64 (Int.tmod n 315537897600)) - 62135596800)) 7) then (bif (fE (IntKind.wrap .i64 ((IntKind.wrap .i64 (Int.tmod n 315537897600)) - 62135596800))) == 0 then (bif (fE (daysZ (IntKind.wrap .i64 ((IntKind.wrap .i64 (Int.tmod n 315537897600)) - 62135596800)) 7)) == 0 then (bif (fE (IntKind.wrap .i64 ((IntKind.wrap .i64 (Int.tmod n 315537897600)) - 62135596800))) == 0 then (bif (fE (daysZ (IntKind.wrap .i64 ((IntKind.wrap .i64 (Int.tmod n 315537897600)) - 62135596800)) 7)) == 0 then (bif (wdZ (IntKind.wrap .i64 ((IntKind.wrap .i64 (Int.tmod n 315537897600)) - 62135596800))) == (wdZ (daysZ (IntKind.wrap .i64 ((IntKind.wrap .i64 (Int.tmod n 315537897600)) - 62135596800)) 7)) then (bif (fH (IntKind.wrap .i64 ((IntKind.wrap .i64 (Int.tmod n 315537897600)) - 62135596800))) == (fH (daysZ (IntKind.wrap .i64 ((IntKind.wrap .i64 (Int.tmod n 315537897600)) - 62135596800)) 7)) then (some (.b ((fS (IntKind.wrap .i64 ((IntKind.wrap .i64 (Int.tmod n 315537897600)) - 62135596800))) == (fS (daysZ (IntKind.wrap .i64 ((IntKind.wrap .i64 (Int.tmod n 315537897600)) - 62135596800)) 7))), [])) else (some (.b false, []))) else (some (.b false, []))) else (some (.b false, []))) else (some (.b false, []))) else (some (.b false, []))) else (some (.b false, []))) else none) else none) else none) else none))) else none)) else none) else none) else none) else none := by kernel_rfl
theorem h7_ok : CallsOK (Γ u mx) H7 := specs_ok (.cons (spI1_ok c12) (.cons (spI1_ok c14) (.cons (sp0_ok fun _ => c16) (.cons (spI2_ok c21) .nil))))
theorem tmod_nat (n k : Nat) : Int.tmod (n : Int) (k : Int) = ((n % k : Nat) : Int) := rfl
theorem moment {n : Int} (h0 : 0 ≤ n) : ∃ k : Nat, k < 315537897600 ∧ IntKind.wrap .i64 ((IntKind.wrap .i64 (Int.tmod n 315537897600)) - 62135596800) = (k : Int) - 62135596800 := by
  obtain ⟨n, rfl⟩ := nat_of h0
  refine ⟨n % 315537897600, by omega, ?_⟩
  rw [show Int.tmod (n : Int) 315537897600 = ((n % 315537897600 : Nat) : Int) from rfl, wrapI (n := ((n % 315537897600 : Nat) : Int)) (by omega) (by omega), wrapI (by omega) (by omega)]
theorem known_k {k : Nat} (h : k < 315537897600) : knownB ((k : Int) - 62135596800) = true := by
  simp only [knownB, Bool.and_eq_true, decide_eq_true_eq]; omega
theorem fields_k {k : Nat} (h : k < 315537897600) : fY ((k : Int) - 62135596800) = ((dateOf k).y : Int) ∧ fMo ((k : Int) - 62135596800) = ((dateOf k).mo : Int) ∧ fD ((k : Int) - 62135596800) = ((dateOf k).d : Int) ∧ fH ((k : Int) - 62135596800) = ((dateOf k).h : Int) ∧ fMi ((k : Int) - 62135596800) = ((dateOf k).mi : Int) ∧ fS ((k : Int) - 62135596800) = ((dateOf k).s : Int) := by
  have e : ((k : Int) - 62135596800 + 62135596800).toNat = k := by omega
  simp only [fY, fMo, fD, fH, fMi, fS, known_k h, cond_true, dtOf, e, and_self]
theorem sec_k {k : Nat} (h : k < 315537897600) : secZ ((dateOf k).y : Int) ((dateOf k).mo : Int) ((dateOf k).d : Int) ((dateOf k).h : Int) ((dateOf k).mi : Int) ((dateOf k).s : Int) = (k : Int) - 62135596800 ∧ secE ((dateOf k).y : Int) ((dateOf k).mo : Int) ((dateOf k).d : Int) ((dateOf k).h : Int) ((dateOf k).mi : Int) ((dateOf k).s : Int) = 0 := by
  obtain ⟨⟨h1, h2, h3, h4, h5, h6, h7, h8, h9⟩, hs⟩ := date_good k h
  generalize dateOf k = x at *
  have hl : lenZ (x.y : Int) (x.mo : Int) = ((lenN x.y x.mo : Nat) : Int) := rfl
  have g : goodB (x.y : Int) (x.mo : Int) (x.d : Int) (x.h : Int) (x.mi : Int) (x.s : Int) = true := good_iff.2 (by rw [hl]; omega)
  have e : dnOf (x.y : Int) (x.mo : Int) (x.d : Int) (x.h : Int) (x.mi : Int) (x.s : Int) = x := rfl
  unfold secZ secE
  rw [g, cond_true, cond_true, e, hs]
  exact ⟨rfl, rfl⟩
theorem u8d {k : Nat} (h : k < 10) : ((UInt8.ofNat (48 + k)).toNat : Int) = 48 + (k : Int) := by
  rw [UInt8.toNat_ofNat']
  omega
theorem digB_d {k : Nat} (h : k < 10) : digB (UInt8.ofNat (48 + k)) = true := by
  unfold digB; rw [u8d h]; simp only [Bool.and_eq_true, decide_eq_true_eq]; omega
theorem num_2 {n : Nat} (h : n < 100) : numZ [UInt8.ofNat (48 + n / 10), UInt8.ofNat (48 + n % 10)] = (n : Int) := by
  show ((0 : Int) * 10 + (((UInt8.ofNat (48 + n / 10)).toNat : Int) - 48)) * 10 + (((UInt8.ofNat (48 + n % 10)).toNat : Int) - 48) = _
  rw [u8d (show n / 10 < 10 by omega), u8d (show n % 10 < 10 by omega)]; omega
theorem num_4 {n : Nat} (h : n < 10000) : numZ [UInt8.ofNat (48 + n / 100 / 10), UInt8.ofNat (48 + n / 100 % 10), UInt8.ofNat (48 + n % 100 / 10), UInt8.ofNat (48 + n % 100 % 10)] = (n : Int) := by
  show ((((0 : Int) * 10 + (((UInt8.ofNat (48 + n / 100 / 10)).toNat : Int) - 48)) * 10 + (((UInt8.ofNat (48 + n / 100 % 10)).toNat : Int) - 48)) * 10 + (((UInt8.ofNat (48 + n % 100 / 10)).toNat : Int) - 48)) * 10 + (((UInt8.ofNat (48 + n % 100 % 10)).toNat : Int) - 48) = _
  rw [u8d (show n / 100 / 10 < 10 by omega), u8d (show n / 100 % 10 < 10 by omega), u8d (show n % 100 / 10 < 10 by omega), u8d (show n % 100 % 10 < 10 by omega)]; omega
def p2 (n : Nat) : List UInt8 := [UInt8.ofNat (48 + n / 10), UInt8.ofNat (48 + n % 10)]
/-- a moment's text by the numbers of its date -/
def txN (x : DateN) : List UInt8 := p2 (x.y / 100) ++ (p2 (x.y % 100) ++ (45 :: (p2 x.mo ++ (45 :: (p2 x.d ++ (84 :: (p2 x.h ++ (58 :: (p2 x.mi ++ (58 :: (p2 x.s ++ [90])))))))))))
theorem text_k {k : Nat} (h : k < 315537897600) : textS ((k : Int) - 62135596800) = txN (dateOf k) := by
  obtain ⟨f1, f2, f3, f4, f5, f6⟩ := fields_k h
  unfold textS
  rw [known_k h, cond_true, f1, f2, f3, f4, f5, f6]
  have e1 : ((dateOf k).y : Int) / 100 = (((dateOf k).y / 100 : Nat) : Int) := by omega
  have e2 : ((dateOf k).y : Int) % 100 = (((dateOf k).y % 100 : Nat) : Int) := by omega
  have e4 : padZ ((dateOf k).y : Int) 4 = pad2 (((dateOf k).y / 100 : Nat) : Int) ++ pad2 (((dateOf k).y % 100 : Nat) : Int) := by
    show pad2 (((dateOf k).y : Int) / 100) ++ pad2 (((dateOf k).y : Int) % 100) = _
    rw [e1, e2]
  unfold textV
  rw [e4]
  generalize dateOf k = x
  rfl
theorem par_k {k : Nat} (h : k < 315537897600) : parV (textS ((k : Int) - 62135596800)) = (k : Int) - 62135596800 ∧ parE (textS ((k : Int) - 62135596800)) = 0 := by
  obtain ⟨s1, s2⟩ := sec_k h
  obtain ⟨⟨h1, h2, h3, h4, h5, h6, h7, h8, h9⟩, hs⟩ := date_good k h
  have h6' := (len_pos (dateOf k).y (dateOf k).mo).2
  rw [text_k h]
  generalize dateOf k = x at *
  have hf : formB formL (txN x) = true := by
    show formB formL [_, _, _, _, _, _, _, _, _, _, _, _, _, _, _, _, _, _, _, _] = true
    rw [form20]
    rw [digB_d (show x.y / 100 / 10 < 10 by omega), digB_d (show x.y / 100 % 10 < 10 by omega), digB_d (show x.y % 100 / 10 < 10 by omega), digB_d (show x.y % 100 % 10 < 10 by omega), digB_d (show x.mo / 10 < 10 by omega), digB_d (show x.mo % 10 < 10 by omega), digB_d (show x.d / 10 < 10 by omega), digB_d (show x.d % 10 < 10 by omega),
      digB_d (show x.h / 10 < 10 by omega), digB_d (show x.h % 10 < 10 by omega), digB_d (show x.mi / 10 < 10 by omega), digB_d (show x.mi % 10 < 10 by omega), digB_d (show x.s / 10 < 10 by omega), digB_d (show x.s % 10 < 10 by omega)]
    rfl
  have q1 : numZ (cut (txN x) 0 4) = (x.y : Int) := num_4 (by omega)
  have q2 : numZ (cut (txN x) 5 7) = (x.mo : Int) := num_2 (by omega)
  have q3 : numZ (cut (txN x) 8 10) = (x.d : Int) := num_2 (by omega)
  have q4 : numZ (cut (txN x) 11 13) = (x.h : Int) := num_2 (by omega)
  have q5 : numZ (cut (txN x) 14 16) = (x.mi : Int) := num_2 (by omega)
  have q6 : numZ (cut (txN x) 17 19) = (x.s : Int) := num_2 (by omega)
  unfold parV parE
  rw [hf, q1, q2, q3, q4, q5, q6]
  exact ⟨s1, s2⟩
/-! ### the order of texts -/
def gtL (a b : List UInt8) : Prop := lessB a b = false ∧ (a == b) = false
theorem less_c (a b : UInt8) (x y : List UInt8) : lessB (a :: x) (b :: y) = (decide (a < b) || (a == b && lessB x y)) := rfl
theorem gt_same (a : UInt8) {x y : List UInt8} (h : gtL x y) : gtL (a :: x) (a :: y) := by
  obtain ⟨h1, h2⟩ := h
  refine ⟨?_, ?_⟩
  · rw [less_c, h1, Bool.and_false, Bool.or_false]
    exact decide_eq_false (by simp)
  · rw [List.cons_beq_cons, h2, Bool.and_false]
theorem gt_less {a b : UInt8} (h : b.toNat < a.toNat) (x y : List UInt8) : gtL (a :: x) (b :: y) := by
  have hn : (a == b) = false := Bool.eq_false_iff.2 fun he => by rw [eq_of_beq he] at h; omega
  refine ⟨?_, ?_⟩
  · rw [less_c, hn, Bool.false_and, Bool.or_false]
    exact decide_eq_false (by rw [UInt8.lt_iff_toNat_lt]; omega)
  · rw [List.cons_beq_cons, hn, Bool.false_and]
theorem gt_pre : ∀ (p : List UInt8) {x y : List UInt8}, gtL x y → gtL (p ++ x) (p ++ y)
  | [], _, _, h => h
  | a :: p, _, _, h => gt_same a (gt_pre p h)
theorem u8n {k : Nat} (h : k < 10) : (UInt8.ofNat (48 + k)).toNat = 48 + k := by
  have := u8d h; omega
theorem gt_p2 {n m : Nat} (h : n < m) (hm : m < 100) (x y : List UInt8) : gtL (p2 m ++ x) (p2 n ++ y) := by
  show gtL (UInt8.ofNat (48 + m / 10) :: UInt8.ofNat (48 + m % 10) :: x) (UInt8.ofNat (48 + n / 10) :: UInt8.ofNat (48 + n % 10) :: y)
  by_cases hd : n / 10 = m / 10
  · rw [hd]
    refine gt_same _ (gt_less ?_ _ _)
    rw [u8n (show n % 10 < 10 by omega), u8n (show m % 10 < 10 by omega)]; omega
  · refine gt_less ?_ _ _
    rw [u8n (show n / 10 < 10 by omega), u8n (show m / 10 < 10 by omega)]; omega
theorem next_gt {x : DateN} (h : x.good) (hn : (nextD x).good) : gtL (txN (nextD x)) (txN x) := by
  obtain ⟨h1, h2, h3, h4, h5, h6, h7, h8, h9⟩ := h
  have hl := (len_pos x.y x.mo).2
  have hy := hn.2.1
  unfold nextD at hy ⊢
  unfold txN
  split
  · exact gt_pre _ (gt_pre _ (gt_same _ (gt_pre _ (gt_same _ (gt_pre _ (gt_same _ (gt_pre _ (gt_same _ (gt_pre _ (gt_same _ (gt_p2 (by simp only; omega) (by simp only; omega) _ _)))))))))))
  · split
    · exact gt_pre _ (gt_pre _ (gt_same _ (gt_pre _ (gt_same _ (gt_pre _ (gt_same _ (gt_pre _ (gt_same _ (gt_p2 (by simp only; omega) (by simp only; omega) _ _)))))))))
    · split
      · exact gt_pre _ (gt_pre _ (gt_same _ (gt_pre _ (gt_same _ (gt_pre _ (gt_same _ (gt_p2 (by simp only; omega) (by simp only; omega) _ _)))))))
      · split
        · exact gt_pre _ (gt_pre _ (gt_same _ (gt_pre _ (gt_same _ (gt_p2 (by simp only; omega) (by simp only; omega) _ _)))))
        · split
          · exact gt_pre _ (gt_pre _ (gt_same _ (gt_p2 (by simp only; omega) (by simp only; omega) _ _)))
          · rename_i c1 c2 c3 c4 c5
            rw [if_neg c1, if_neg c2, if_neg c3, if_neg c4, if_neg c5] at hy
            have hy : x.y + 1 ≤ 9999 := hy
            show gtL (p2 ((x.y + 1) / 100) ++ (p2 ((x.y + 1) % 100) ++ _)) (p2 (x.y / 100) ++ (p2 (x.y % 100) ++ _))
            by_cases hc : (x.y + 1) / 100 = x.y / 100
            · rw [hc]
              exact gt_pre _ (gt_p2 (by omega) (by omega) _ _)
            · exact gt_p2 (by omega) (by omega) _ _
theorem next_s {x : DateN} (h : x.good) : (nextD x).s = x.s + 1 ∨ ((nextD x).s = 0 ∧ x.s = 59) := by
  have h9 := h.2.2.2.2.2.2.2.2
  unfold nextD
  split
  · exact .inl rfl
  · refine .inr ⟨?_, by omega⟩
    repeat' split
    all_goals rfl
theorem law6 (n : Int) (h0 : 0 ≤ n) : RetX (Γ u mx) 6 [.i .u64 n] [] (.b true) [] := by
  refine ret_goes (Γ := Γ u mx) hP hZ h6_ok (by kernel_rfl) ⟨0, ?_⟩
  obtain ⟨k, hk, hw⟩ := moment h0
  have hg := date_good k hk
  obtain ⟨f1, f2, f3, f4, f5, f6⟩ := fields_k hk
  obtain ⟨s1, s2⟩ := sec_k hk
  obtain ⟨p1, p2⟩ := par_k hk
  have e1 : i64B ((k : Int) - 62135596800) = true := known_i (known_k hk)
  have e2 : IntKind.wrap .i64 ((k : Int) - 62135596800 + 1) = ((k + 1 : Nat) : Int) - 62135596800 := by rw [wrapI (by omega) (by omega)]; omega
  have e3 : i64B (((k + 1 : Nat) : Int) - 62135596800) = true := by simp only [i64B, Bool.and_eq_true, decide_eq_true_eq]; omega
  have e4 : fE ((k : Int) - 62135596800) = 0 := by simp [fE, known_k hk]
  have e5 : ((textS ((k : Int) - 62135596800)).length : Int) = 20 := by rw [text_k hk]; rfl
  rw [r6, hw]
  rw [e1, e2, e3, e4, p1, p2, e5, f1, f2, f3, f4, f5, f6, s1, s2]
  simp only [bne_self_eq_false, cond_true, cond_false]
  by_cases hmax : k = 315537897599
  · have e8 : ((k : Int) - 62135596800 == 253402300799) = true := by rw [hmax]; rfl
    have e9 : fE (((k + 1 : Nat) : Int) - 62135596800) = 4 := by rw [hmax]; rfl
    rw [e8, cond_true, e9]; rfl
  · have hk1 : k + 1 < 315537897600 := by omega
    obtain ⟨_, _, _, _, _, g6⟩ := fields_k hk1
    have e6 : fE (((k + 1 : Nat) : Int) - 62135596800) = 0 := by unfold fE; rw [known_k hk1]; rfl
    have e7 : ((k : Int) - 62135596800 == 253402300799) = false := by simp <;> omega
    have hn := (next_secs hg.1 (by rw [hg.2]; exact hk1)).1
    have hgt := next_gt hg.1 hn
    have hs := next_s hg.1
    have h9 := hg.1.2.2.2.2.2.2.2.2
    rw [e6, e7, text_k hk, text_k hk1, g6, date_next hk1, hgt.1, hgt.2, wrapI (n := ((dateOf k).s : Int) + 1) (by omega) (by omega)]
    generalize dateOf k = x at *
    rcases hs with hs | ⟨hs, hs'⟩
    · rw [hs]
      simp
    · rw [hs, hs']
      simp
theorem days_small {t n : Int} (ht : knownB t = true) (h0 : -131072 ≤ n) (h1 : n ≤ 131072) : daysZ t n = clampZ (t + n * 86400) := by
  have hc : clampZ t = t := clamp_id.2 ht
  simp only [knownB, Bool.and_eq_true, decide_eq_true_eq] at ht
  unfold daysZ addZ mulZ
  rw [hc]
  have e1 : ends (n * 86400) = n * 86400 := by unfold ends; rw [if_neg (by omega), if_neg (by omega)]
  have e2 : ends (t + n * 86400) = t + n * 86400 := by unfold ends; rw [if_neg (by omega), if_neg (by omega)]
  rw [e1, e2]
theorem fH_eq {t : Int} (h : knownB t = true) : fH t = dayR t / 3600 ∧ fS t = dayR t % 60 := by
  obtain ⟨n, rfl, hn⟩ := known_nat h
  obtain ⟨_, _, _, f4, _, f6⟩ := fields_k hn
  rw [f4, f6]
  unfold dayR
  show ((n % 86400 / 3600 : Nat) : Int) = _ ∧ ((n % 86400 % 60 : Nat) : Int) = _
  omega
theorem wd_eq {t : Int} (h : knownB t = true) : wdZ t = dayQ t % 7 := by unfold wdZ; rw [h]; rfl
theorem law7 (n a b : Int) (h0 : 0 ≤ n) (ha : 0 ≤ a ∧ a ≤ 65535) (hb : 0 ≤ b ∧ b ≤ 65535) : RetX (Γ u mx) 7 [.i .u64 n, .i .u16 a, .i .u16 b] [] (.b true) [] := by
  refine ret_goes (Γ := Γ u mx) hP hZ h7_ok (by kernel_rfl) ⟨0, ?_⟩
  obtain ⟨k, hk, hw⟩ := moment h0
  have hK := known_k hk
  rw [r7, hw, wrapI (n := a) (by omega) (by omega), wrapI (n := b) (by omega) (by omega), wrapI (n := a + b) (by omega) (by omega)]
  generalize ht : (k : Int) - 62135596800 = t at *
  have dk : ∀ x, knownB (daysZ t x) = true := fun x => clamp_b _
  have q1 : ∀ x, -131072 ≤ x → x ≤ 131072 → i64B2 t x = true := fun x h1 h2 => by
    unfold i64B2
    rw [known_i hK, Bool.true_and]
    simp only [i64B, Bool.and_eq_true, decide_eq_true_eq]; omega
  have q2 : i64B2 (daysZ t a) b = true := by
    unfold i64B2
    rw [known_i (dk a), Bool.true_and]
    simp only [i64B, Bool.and_eq_true, decide_eq_true_eq]; omega
  have e7 : daysZ t 7 = clampZ (t + 604800) := days_small hK (by omega) (by omega)
  have em : daysZ t (-7) = clampZ (t + -604800) := days_small hK (by omega) (by omega)
  have ea : daysZ t a = clampZ (t + a * 86400) := days_small hK (by omega) (by omega)
  have eab : daysZ t (a + b) = clampZ (t + (a + b) * 86400) := days_small hK (by omega) (by omega)
  have eb : daysZ (daysZ t a) b = clampZ (daysZ t a + b * 86400) := days_small (dk a) (by omega) (by omega)
  have e1 : (daysZ (daysZ t a) b != daysZ t (a + b)) = false := by
    rw [bne_eq_false_iff_eq, eb, ea, eab]
    unfold clampZ
    have := hK
    simp only [knownB, Bool.and_eq_true, decide_eq_true_eq] at this
    repeat' split
    all_goals omega
  have e2 : decide (daysZ t (-7) > t) = false := by
    rw [em]
    apply decide_eq_false
    unfold clampZ
    have := hK
    simp only [knownB, Bool.and_eq_true, decide_eq_true_eq] at this
    repeat' split
    all_goals omega
  rw [q1 7 (by omega) (by omega), q1 a (by omega) (by omega), q2, q1 (a + b) (by omega) (by omega), e1, q1 (-7) (by omega) (by omega), e2, known_i hK, known_i (dk 7)]
  simp only [cond_true, cond_false]
  have hK' := hK
  simp only [knownB, Bool.and_eq_true, decide_eq_true_eq] at hK'
  by_cases hm : t + 604800 ≤ 253402300799
  · have eu : daysZ t 7 = t + 604800 := by rw [e7]; unfold clampZ; rw [if_neg (by omega), if_neg (by omega)]
    have hU : knownB (t + 604800) = true := by rw [← eu]; exact dk 7
    have d1 : (IntKind.wrap .i64 (daysZ t 7 - t) != 604800) = false := by rw [eu, wrapI (by omega) (by omega), bne_eq_false_iff_eq]; omega
    have z1 : fE t = 0 := by simp [fE, hK]
    have z2 : fE (t + 604800) = 0 := by simp [fE, hU]
    have w1 : wdZ t = wdZ (t + 604800) := by rw [wd_eq hK, wd_eq hU]; unfold dayQ; omega
    have v1 : fH t = fH (t + 604800) := by rw [(fH_eq hK).1, (fH_eq hU).1]; unfold dayR; omega
    have v2 : fS t = fS (t + 604800) := by rw [(fH_eq hK).2, (fH_eq hU).2]; unfold dayR; omega
    rw [d1, eu, z1, z2, ← w1, ← v1, ← v2]
    simp
  · have eu : daysZ t 7 = 253402300799 := by rw [e7]; unfold clampZ; rw [if_neg (by omega), if_pos (by omega)]
    have d1 : (IntKind.wrap .i64 (daysZ t 7 - t) != 604800) = true := by rw [eu, wrapI (by omega) (by omega), bne_iff_ne]; omega
    rw [d1, eu]; rfl
end Go.Proofs.YtlmdkclchjcapaaDoor.V
