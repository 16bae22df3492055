/- Dates: the simplest facts, and the laws of moments, texts and days. Residuals are written by program. -/
import Derived.Test.YtlmdkclchjcapaaDoorWhHb
namespace Go.Proofs.YtlmdkclchjcapaaDoor.V
open Go
set_option maxRecDepth 100000
set_option linter.unusedVariables false
set_option linter.unusedSimpArgs false
variable {u : Bool} {mx : Int}
def H16 : Handle := runS [⟨14, dat (spI1 i64B wdA)⟩, ⟨17, dat (spI1 i64B txtA)⟩, ⟨19, dat (sp1 (fun _ => true) parA)⟩, ⟨21, dat (spI2 i64B2 fun t n => .i .i64 (daysZ t n))⟩]
theorem r16 (lab : Lab) : evF (Γ u mx) H16 lab 16 [] [] =
  bif i64B 0 then (bif i64B 0 then (bif (parE ([50, 48, 48, 48, 45, 48, 50, 45, 50, 57, 84, 49, 50, 58, 51, 48, 58, 52, 53, 90] : List UInt8)) == 0 then (bif (fE 0) == 0 then (bif (fE 0) == 0 then (bif (parV ([50, 48, 48, 48, 45, 48, 50, 45, 50, 57, 84, 49, 50, 58, 51, 48, 58, 52, 53, 90] : List UInt8)) == 951827445 then (bif (textS 0) == ([49, 57, 55, 48, 45, 48, 49, 45, 48, 49, 84, 48, 48, 58, 48, 48, 58, 48, 48, 90] : List UInt8) then (bif (wdZ 0) == 3 then (bif i64B2 0 1 then (some (.b ((daysZ 0 1) == 86400), [])) else none) else (some (.b false, []))) else (some (.b false, []))) else (some (.b false, []))) else (some (.b false, []))) else (some (.b false, []))) else (some (.b false, []))) else none) else none := by kernel_rfl
theorem h16_ok : CallsOK (Γ u mx) H16 := specs_ok (.cons (spI1_ok c14) (.cons (spI1_ok c17) (.cons (sp1_ok c19) (.cons (spI2_ok c21) .nil))))
theorem c16 : RetX (Γ u mx) 16 [] [] (.b true) [] := by
  refine ret_goes (Γ := Γ u mx) hP hZ h16_ok (by kernel_rfl) ⟨0, ?_⟩
  rw [r16]
  kernel_rfl
def H3 : Handle := runS [⟨10, dat (spDt secA)⟩, ⟨11, dat (spDt secA)⟩, ⟨12, dat (spI1 i64B fldA)⟩, ⟨13, dat (spI1 i64B fldA)⟩, ⟨14, dat (spI1 i64B wdA)⟩, ⟨15, dat (spI1 i64B wdA)⟩, ⟨16, dat (sp0 true (.b true))⟩]
theorem r3 (lab : Lab) (y : Int) (mo : Int) (d : Int) (h : Int) (mi : Int) (s : Int) (t : Int) : evF (Γ u mx) H3 lab 3 [.i .i64 y, .i .i64 mo, .i .i64 d, .i .i64 h, .i .i64 mi, .i .i64 s, .i .i64 t] [] =
  bif i64B t then (bif i64B t then (bif i64B t then (bif i64B t then (bif (secZ y mo d h mi s) == (secZ y mo d h mi s) then (bif (secE y mo d h mi s) == (secE y mo d h mi s) then (bif eqD (D.agg [D.int .i64 (fY t), D.int .i64 (fMo t), D.int .i64 (fD t), D.int .i64 (fH t), D.int .i64 (fMi t), D.int .i64 (fS t)]) (D.agg [D.int .i64 (fY t), D.int .i64 (fMo t), D.int .i64 (fD t), D.int .i64 (fH t), D.int .i64 (fMi t), D.int .i64 (fS t)]) then (bif (fE t) == (fE t) then (bif (wdZ t) == (wdZ t) then (some (.b ((fE t) == (fE t)), [])) else (some (.b false, []))) else (some (.b false, []))) else (some (.b false, []))) else (some (.b false, []))) else (some (.b false, []))) else none) else none) else none) else none := by kernel_rfl
theorem h3_ok : CallsOK (Γ u mx) H3 := specs_ok (.cons (spDt_ok c10) (.cons (spDt_ok c11) (.cons (spI1_ok c12) (.cons (spI1_ok c13) (.cons (spI1_ok c14) (.cons (spI1_ok c15) (.cons (sp0_ok fun _ => c16) .nil)))))))
def H4 : Handle := runS [⟨16, dat (sp0 true (.b true))⟩, ⟨17, dat (spI1 i64B txtA)⟩, ⟨18, dat (spI1 i64B txtA)⟩, ⟨19, dat (sp1 (fun _ => true) parA)⟩, ⟨20, dat (sp1 (fun _ => true) parA)⟩]
theorem r4 (lab : Lab) (t : Int) (s : List UInt8) : evF (Γ u mx) H4 lab 4 [.i .i64 t, .s s] [] =
  bif i64B t then (bif i64B t then (bif (textS t) == (textS t) then (bif (fE t) == (fE t) then (bif (parV s) == (parV s) then (some (.b ((parE s) == (parE s)), [])) else (some (.b false, []))) else (some (.b false, []))) else (some (.b false, []))) else none) else none := by kernel_rfl
theorem h4_ok : CallsOK (Γ u mx) H4 := specs_ok (.cons (sp0_ok fun _ => c16) (.cons (spI1_ok c17) (.cons (spI1_ok c18) (.cons (sp1_ok c19) (.cons (sp1_ok c20) .nil)))))
def H5 : Handle := runS [⟨16, dat (sp0 true (.b true))⟩, ⟨21, dat (spI2 i64B2 fun t n => .i .i64 (daysZ t n))⟩, ⟨22, dat (spI2 i64B2 fun t n => .i .i64 (daysZ t n))⟩, ⟨23, dat (spI1 (fun _ => true) fun t => .i .i64 (clampZ t))⟩, ⟨24, dat (spI1 (fun _ => true) fun t => .i .i64 (clampZ t))⟩]
theorem r5 (lab : Lab) (t : Int) (n : Int) : evF (Γ u mx) H5 lab 5 [.i .i64 t, .i .i64 n] [] =
  bif i64B2 t n then (bif i64B2 t n then (bif (daysZ t n) == (daysZ t n) then (some (.b ((clampZ t) == (clampZ t)), [])) else (some (.b false, []))) else none) else none := by kernel_rfl
theorem h5_ok : CallsOK (Γ u mx) H5 := specs_ok (.cons (sp0_ok fun _ => c16) (.cons (spI2_ok c21) (.cons (spI2_ok c22) (.cons (spI1_ok c23) (.cons (spI1_ok c24) .nil)))))
theorem eqD_date (a b c d e f : Int) : eqD (D.agg [D.int .i64 a, D.int .i64 b, D.int .i64 c, D.int .i64 d, D.int .i64 e, D.int .i64 f]) (D.agg [D.int .i64 a, D.int .i64 b, D.int .i64 c, D.int .i64 d, D.int .i64 e, D.int .i64 f]) = true := by
  simp [eqD, eqDs]
theorem law3 (y mo d h mi s t : Int) (ht : i64B t = true) : RetX (Γ u mx) 3 [.i .i64 y, .i .i64 mo, .i .i64 d, .i .i64 h, .i .i64 mi, .i .i64 s, .i .i64 t] [] (.b true) [] := by
  refine ret_goes (Γ := Γ u mx) hP hZ h3_ok (by kernel_rfl) ⟨0, ?_⟩
  rw [r3, ht, eqD_date]
  simp only [beq_self_eq_true, cond_true]
theorem law4 (t : Int) (s : List UInt8) (ht : i64B t = true) : RetX (Γ u mx) 4 [.i .i64 t, .s s] [] (.b true) [] := by
  refine ret_goes (Γ := Γ u mx) hP hZ h4_ok (by kernel_rfl) ⟨0, ?_⟩
  rw [r4, ht]
  simp only [beq_self_eq_true, cond_true]
theorem law5 (t n : Int) (ht : i64B2 t n = true) : RetX (Γ u mx) 5 [.i .i64 t, .i .i64 n] [] (.b true) [] := by
  refine ret_goes (Γ := Γ u mx) hP hZ h5_ok (by kernel_rfl) ⟨0, ?_⟩
  rw [r5, ht]
  simp only [beq_self_eq_true, cond_true]
end Go.Proofs.YtlmdkclchjcapaaDoor.V
