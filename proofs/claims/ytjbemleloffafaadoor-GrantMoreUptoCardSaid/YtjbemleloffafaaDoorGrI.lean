/- Grants: one grant more: the law GrantMore. -/
import Derived.Test.YtjbemleloffafaaDoorGrH
namespace Go.Proofs.YtjbemleloffafaaDoor.V
open Go
set_option maxRecDepth 100000
set_option linter.unusedVariables false
set_option linter.unusedSimpArgs false
variable {mx : Int}
theorem h4_ok : CallsOK (Γ mx) (H4v alC alB alE allG grB) := specs_ok (.cons (sp0_ok c12) (.cons (spL3_ok c13) (.cons (spL1_ok c17) .nil)))
theorem room56 {n : Nat} (h : n ≤ 1048577) : roomB n 56 = true := by
  unfold roomB
  simp only [Bool.and_eq_true, decide_eq_true_eq]
  exact ⟨rfl, by omega⟩
theorem gs_app (l m : List D) : gsSound (l ++ m) = (gsSound l && gsSound m) := List.all_append
theorem more_ahead (l : List D) (g : D) : grB ([g] ++ l) = grB (l ++ [g]) := by
  unfold grB
  rw [gs_app, gs_app, Bool.and_comm (gsSound l), List.length_append, List.length_append, Nat.add_comm]
theorem alB_ne {l : List D} (h : l ≠ []) (x y z : List UInt8) : alB l x y z = (grB l && (knownW y && (l.any (meetsA x y z) && !l.any fun g => meetsA x y z g && gDeny g))) := by
  unfold alB
  cases l with
  | nil => exact absurd rfl h
  | cons a q => simp
theorem law4 (l : List D) (b : Bool) (w t k x y z : List UInt8) (hl : l.length ≤ 1048576) (hg : l.all isG = true) (hs : (short x && (short y && short z)) = true) :
    RetX (Γ mx) 4 [.sl 29 .any l, .d 29 (D.agg [D.bool b, D.str w, D.str t, D.str k]), .s x, .s y, .s z] [] (.b true) [] := by
  have hC : ∀ m : List D, m.length ≤ 1099511627776 → m.all isG = true → alC m x y z = true := fun m h1 h2 => by
    unfold alC allG
    rw [decide_eq_true h1, h2, hs]; rfl
  have hA : ∀ m : List D, m.length ≤ 1099511627776 → m.all isG = true → allG m = true := fun m h1 h2 => by
    unfold allG
    rw [decide_eq_true h1, h2]; rfl
  have hi : isG (D.agg [D.bool b, D.str w, D.str t, D.str k]) = true := rfl
  have hd : gDeny (D.agg [D.bool b, D.str w, D.str t, D.str k]) = b := rfl
  cases l with
  | nil =>
    refine ret_goes (Γ := Γ mx) hP hZ h4_ok (by kernel_rfl) ⟨0, ?_⟩
    generalize hgd : (D.agg [D.bool b, D.str w, D.str t, D.str k]) = g at hi hd
    have h1 := hC [] (by simp) rfl
    have h2 := hC [g] (by simp) (by simp [hi])
    have h3 := hA [g] (by simp) (by simp [hi])
    rw [← hgd, r4n, hgd, h1, h2, h3, alB_ne (l := [g]) (by simp), show grB [g] = (true && gsSound [g]) from rfl]
    unfold alE
    rw [show grB [] = true from rfl, show grB [g] = (true && gsSound [g]) from rfl, show alB [] x y z = (true && (knownW y && true)) from rfl, List.any_cons, List.any_cons, hd]
    generalize decide ((IntKind.wrap .i64 (((List.length x : Int)) + ((List.length z : Int)))) > 3000) = b1
    generalize knownW y = b2
    generalize gsSound [g] = b3
    generalize meetsA x y z g = b4
    cases b1 <;> cases b2 <;> cases b3 <;> cases b4 <;> cases b <;> rfl
  | cons a q =>
    refine ret_goes (Γ := Γ mx) hP hZ h4_ok (by kernel_rfl) ⟨0, ?_⟩
    rw [r4c, show (((a :: q).length : Int) == 0) = false from beq_eq_false_iff_ne.2 (by rw [List.length_cons]; omega), room56 (by omega), room56 (by omega), room56 (by omega)]
    have hne : (a :: q) ≠ [] := by simp
    generalize (a :: q) = l at hl hg hne
    generalize (D.agg [D.bool b, D.str w, D.str t, D.str k]) = g at hi hd
    have h1 := hC l (by omega) hg
    have h2 := hC (l ++ [g]) (by simp; omega) (by simp [hi]; simpa using hg)
    have h3 := hA (l ++ [g]) (by simp; omega) (by simp [hi]; simpa using hg)
    have h4 := hC ([g] ++ l) (by simp; omega) (by simp [hi]; simpa using hg)
    rw [h1, h2, h3, h4, alB_ne hne, alB_ne (l := l ++ [g]) (by simp), alB_ne (l := [g] ++ l) (by simp)]
    unfold alE
    rw [more_ahead]
    simp only [List.any_append, List.any_cons, List.any_nil, Bool.or_false, hd]
    have hs2 : grB (l ++ [g]) = true → grB l = true := by
      unfold grB
      rw [gs_app]
      simp only [Bool.and_eq_true, decide_eq_true_eq, List.length_append, List.length_cons, List.length_nil]
      exact fun h => ⟨by omega, h.2.1⟩
    generalize decide ((IntKind.wrap .i64 (((List.length x : Int)) + ((List.length z : Int)))) > 3000) = b1
    generalize knownW y = b2
    generalize grB l = b3 at hs2
    generalize grB (l ++ [g]) = b4 at hs2
    generalize meetsA x y z g = b5
    generalize l.any (meetsA x y z) = b6
    generalize (l.any fun g => meetsA x y z g && gDeny g) = b7
    cases b1 <;> cases b2 <;> cases b3 <;> cases b4 <;> cases b5 <;> cases b6 <;> cases b7 <;> cases b <;> first | rfl | exact absurd (hs2 rfl) (by simp)
end Go.Proofs.YtjbemleloffafaaDoor.V
