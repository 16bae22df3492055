/- LsS, LsT, LsU, LsW, LsC, LsD, LsF, LsM, LsH, LsN, LsI, LsO, LsQ, LsR, LsX, RuK, LtA, LtE, LtD, LtC, LtB, LtF, LtG, LtH: texts of this claim, put together in build order by program. -/
import Derived.Test.YtapaenfafjmljaaBd
/- Lists: meta.Sound ends; what it says of the first bucket if it is true. -/
namespace Go.Proofs.Ytapaenfafjmljaa.V
open Go
set_option maxRecDepth 100000
set_option linter.unusedVariables false
set_option linter.unusedSimpArgs false
variable {mx : Int}
/-! ### small ones -/
theorem l43 (c : Int) (_ : true = true) : RetX (Γ mx) 43 [.i .u8 c] [] (.b (lowZ c)) [] := by
  refine ret_goes (Γ := Γ mx) hP hZ none_ok (by kernel_rfl) ⟨0, ?_⟩
  rw [w43, lowZ]
  cases decide (c ≥ 97) <;> cases decide (c ≤ 122) <;> cases decide (c ≥ 48) <;> cases decide (c ≤ 57) <;> rfl
theorem l43_ok : SpecOK (Γ mx) ⟨43, dat (spB fun n => .b (lowZ n))⟩ := dat_ok fun args r hr => by
  unfold spB at hr
  split at hr
  · simp only [Option.some.injEq, Prod.mk.injEq] at hr
    obtain ⟨_, rfl⟩ := hr
    exact l43 _ rfl
  · exact absurd hr (by simp)
theorem l32 (d : D) (h : isDf d = true) : RetX (Γ mx) 32 [.d 26 d] [] (.b (dfB d)) [] := by
  unfold isDf at h
  split at h
  · rename_i md dy
    refine ret_goes (Γ := Γ mx) hP hZ none_ok (by kernel_rfl) ⟨0, ?_⟩
    rw [w32]
    show _ = some (AV.b (bif md == 0 then dy == 0 else bif md == 1 then (bif decide (dy ≥ 1) then decide (dy ≤ 36500) else false) else bif md == 2 then (bif decide (dy ≥ 1) then decide (dy ≤ 36500) else false) else false), [])
    cases md == 0 <;> cases md == 1 <;> cases md == 2 <;> cases decide (dy ≥ 1) <;> rfl
  · exact absurd h (by simp)
theorem l50 (d : D) (h : isPt d = true) : RetX (Γ mx) 50 [.d 107 d] [] (.b (ptB d)) [] := by
  unfold isPt at h
  split at h
  · rename_i a b c g
    refine ret_goes (Γ := Γ mx) hP hZ none_ok (by kernel_rfl) ⟨0, ?_⟩
    rw [w50]
    show _ = some (AV.b (bif decide (a ≥ 1) then bif decide (a ≤ 10000) then bif decide (b ≥ 0) then bif decide (b ≤ 1024) then decide (c ≥ 1) else false else false else false else false), [])
    cases decide (a ≥ 1) <;> cases decide (a ≤ 10000) <;> cases decide (b ≥ 0) <;> cases decide (b ≤ 1024) <;> rfl
  · exact absurd h (by simp)
/-! ### four -/
theorem g44 (s : Tx) (hs : s.length ≤ 4194304) : ∀ (rest pre : Tx) (p d i : Int), s = pre ++ rest → i = (pre.length : Int) → 0 ≤ d → d ≤ 3 → 0 ≤ p → p ≤ (pre.length : Int) → GoesP (Γ mx) (runS []) 44 3 ⟨[(0, .s s), (3, .i .i64 p), (4, .i .i64 d), (5, .i .i64 i)], []⟩ True
  | [], pre, p, d, i, he, hi, h0, h3, hp0, hp => by
    subst hi
    refine GoesP.step (xp_of (fun n => w44_3a _ s p d _) ?_)
    refine xp_bif (fun h => ?_) (fun h => ?_)
    · have := of_decide_eq_true h; rw [he] at this; simp at this
    · exact xp_bif (fun _ => xp_some _ fun _ => trivial) (fun _ => xp_false)
  | c :: r, pre, p, d, i, he, hi, h0, h3, hp0, hp => by
    subst hi
    have hlen : s.length = pre.length + (r.length + 1) := by rw [he]; simp
    have hg : s[((pre.length : Nat) : Int).toNat]? = some c := by rw [he]; exact get_mid pre c r
    have w1 : IntKind.wrap .i64 ((pre.length : Int) + 1) = (pre.length : Int) + 1 := wrapI (by omega) (by omega)
    have w2 : IntKind.wrap .i64 (p + 1) = p + 1 := wrapI (by omega) (by omega)
    have w3 : IntKind.wrap .i64 (d + 1) = d + 1 := wrapI (by omega) (by omega)
    have nx : ∀ p' d', 0 ≤ d' → d' ≤ 3 → 0 ≤ p' → p' ≤ (pre.length : Int) + 1 → GoesP (Γ mx) (runS []) 44 3 ⟨[(0, .s s), (3, .i .i64 p'), (4, .i .i64 d'), (5, .i .i64 ((pre.length : Int) + 1))], []⟩ True := fun p' d' a b e f =>
      g44 s hs r (pre ++ [c]) p' d' _ (by rw [he]; simp) (by simp) a b e (by simp; omega)
    refine GoesP.step (xp_of (fun n => w44_3a _ s p d _) ?_)
    rw [w1, w2, w3]
    refine xp_bif (fun h => ?_) (fun h => ?_)
    · refine xp_idx (by omega) hg ?_
      refine xp_bif (fun _ => ?_) (fun _ => ?_)
      · exact xp_no fun _ => xp_lab (nx _ _ (by omega) (by omega) (by omega) (by omega))
      · refine xp_idx (by omega) hg (xp_no fun _ => xp_idx (by omega) hg (xp_no fun _ => xp_no fun hd => ?_))
        have := of_decide_eq_false hd
        exact xp_lab (nx _ _ (by omega) (by omega) (by omega) (by omega))
    · have := of_decide_eq_false h; omega
theorem l44 (s : Tx) (h : short s = true) : ∃ b, RetX (Γ mx) 44 [.s s] [] (.b b) [] := by
  obtain ⟨b, ⟨n, hn⟩, _⟩ := g44 (mx := mx) s (short_le h) s [] 0 0 0 rfl rfl (by omega) (by omega) (by omega) (by simp)
  exact ⟨b, ret_goes (Γ := Γ mx) hP hZ none_ok (by kernel_rfl) ⟨n, by rw [w44]; exact hn⟩⟩
open Classical in
noncomputable def fourB (mx : Int) (s : Tx) : Bool := if h : ∃ b, RetX (Γ mx) 44 [.s s] [] (.b b) [] then Classical.choose h else false
theorem c44' (s : Tx) (h : short s = true) : RetX (Γ mx) 44 [.s s] [] (.b (fourB mx s)) [] := by
  have he := l44 (mx := mx) s h
  unfold fourB
  rw [dif_pos he]
  exact Classical.choose_spec he
/-! ### a bucket's name -/
theorem W31_ok : CallsOK (Γ mx) (W31 (fourB mx)) := specs_ok (.cons l43_ok (.cons (sp1_ok c44') .nil))
theorem g31 (FO : Tx → Bool) (s : Tx) (hs : s.length ≤ 4194304) : ∀ (rest pre : Tx) (i : Int), s = pre ++ rest → i = (pre.length : Int) → GoesP (Γ mx) (W31 FO) 31 4 ⟨[(0, .s s), (3, .i .i64 i)], []⟩ True
  | [], pre, i, he, hi => by
    subst hi
    refine GoesP.step (xp_of (fun n => w31_4a FO _ s _) ?_)
    refine xp_bif (fun h => ?_) (fun h => xp_some _ fun _ => trivial)
    have := of_decide_eq_true h; rw [he] at this; simp at this
  | c :: r, pre, i, he, hi => by
    subst hi
    have hlen : s.length = pre.length + (r.length + 1) := by rw [he]; simp
    have hg : s[((pre.length : Nat) : Int).toNat]? = some c := by rw [he]; exact get_mid pre c r
    have w1 : IntKind.wrap .i64 ((pre.length : Int) + 1) = (pre.length : Int) + 1 := wrapI (by omega) (by omega)
    have w2 : IntKind.wrap .i64 ((pre.length : Int) - 1) = (pre.length : Int) - 1 := wrapI (by omega) (by omega)
    have nx := xp_lab (g31 FO s hs r (pre ++ [c]) ((pre.length : Int) + 1) (by rw [he]; simp) (by simp))
    have hp : (pre.length : Int) > 0 → ∃ y, s[((pre.length : Int) - 1).toNat]? = some y := fun h => by
      obtain ⟨y, hy, _⟩ := get_some (l := s) (i := (pre.length : Int) - 1) (by omega) (by omega)
      exact ⟨y, hy⟩
    refine GoesP.step (xp_of (fun n => w31_4a FO _ s _) ?_)
    rw [w1, w2]
    have rest : EXP True fun n => bif decide ((pre.length : Int) > 0) then (idx s (pre.length : Int) fun c6 => bif !(lowZ ((c6.toNat : Int))) then (idx s ((pre.length : Int) - 1) fun c7 => bif !(lowZ ((c7.toNat : Int))) then (idx s (pre.length : Int) fun c8 => bif ((c8.toNat : Int)) == 45 then (idx s ((pre.length : Int) - 1) fun c9 => bif !(((c9.toNat : Int)) == 45) then (some (.b false, [])) else (L (Γ mx) (W31 FO) 31 n (todoAt (Γ mx) 31 4) ⟨[(0, .s s), (3, .i .i64 ((pre.length : Int) + 1))], []⟩)) else (some (.b false, []))) else (L (Γ mx) (W31 FO) 31 n (todoAt (Γ mx) 31 4) ⟨[(0, .s s), (3, .i .i64 ((pre.length : Int) + 1))], []⟩)) else (L (Γ mx) (W31 FO) 31 n (todoAt (Γ mx) 31 4) ⟨[(0, .s s), (3, .i .i64 ((pre.length : Int) + 1))], []⟩)) else (L (Γ mx) (W31 FO) 31 n (todoAt (Γ mx) 31 4) ⟨[(0, .s s), (3, .i .i64 ((pre.length : Int) + 1))], []⟩) := by
      refine xp_bif (fun h => ?_) (fun _ => nx)
      obtain ⟨y, hy⟩ := hp (of_decide_eq_true h)
      have h1 := of_decide_eq_true h
      refine xp_idx (by omega) hg (xp_bif (fun _ => ?_) (fun _ => nx))
      refine xp_idx (by omega) hy (xp_bif (fun _ => ?_) (fun _ => nx))
      refine xp_idx (by omega) hg (xp_bif (fun _ => ?_) (fun _ => xp_false))
      exact xp_idx (by omega) hy (xp_no fun _ => nx)
    refine xp_bif (fun h => ?_) (fun h => ?_)
    · refine xp_idx (by omega) hg (xp_bif (fun _ => ?_) (fun _ => rest))
      refine xp_idx (by omega) hg (xp_bif (fun _ => ?_) (fun _ => rest))
      exact xp_idx (by omega) hg (xp_no fun _ => rest)
    · have := of_decide_eq_false h; omega
theorem l31 (s : Tx) (h : short s = true) : ∃ b, RetX (Γ mx) 31 [.s s] [] (.b b) [] := by
  have hl := short_le h
  obtain ⟨b, ⟨n, hn⟩, _⟩ := g31 (mx := mx) (fourB mx) s hl s [] 0 rfl rfl
  have : EXP True fun n => evF (Γ mx) (W31 (fourB mx)) (L (Γ mx) (W31 (fourB mx)) 31 n) 31 [.s s] [] := by
    refine xp_of (fun n => w31 (fourB mx) _ s) ?_
    refine xp_no fun h1 => xp_no fun h2 => ?_
    have h1 := of_decide_eq_false h1
    have e1 : IntKind.wrap .i64 ((s.length : Int) - 1) = (s.length : Int) - 1 := wrapI (by omega) (by omega)
    rw [e1]
    obtain ⟨y, hy, _⟩ := get_some (l := s) (i := 0) (by omega) (by omega)
    obtain ⟨z, hz, _⟩ := get_some (l := s) (i := (s.length : Int) - 1) (by omega) (by omega)
    refine xp_idx (by omega) hy (xp_no fun _ => xp_idx (by omega) hz (xp_no fun _ => xp_must h (xp_no fun _ => ?_)))
    exact ⟨n, b, hn, fun _ => trivial⟩
  obtain ⟨m, b', hm, _⟩ := this
  exact ⟨b', ret_goes (Γ := Γ mx) hP hZ W31_ok (by kernel_rfl) ⟨m, hm⟩⟩
open Classical in
noncomputable def bktB (mx : Int) (s : Tx) : Bool := if h : ∃ b, RetX (Γ mx) 31 [.s s] [] (.b b) [] then Classical.choose h else false
theorem c31' (s : Tx) (h : short s = true) : RetX (Γ mx) 31 [.s s] [] (.b (bktB mx s)) [] := by
  have he := l31 (mx := mx) s h
  unfold bktB
  rw [dif_pos he]
  exact Classical.choose_spec he
end Go.Proofs.Ytapaenfafjmljaa.V

/- Lists: meta.Sound ends; what it says of the first bucket if it is true: the loops. -/
namespace Go.Proofs.Ytapaenfafjmljaa.V
open Go
set_option maxRecDepth 100000
set_option linter.unusedVariables false
set_option linter.unusedSimpArgs false
variable {mx : Int}
/-! ### an upload -/
theorem pt_ex {d : D} (h : isPt d = true) : ∃ a b c g, d = .agg [.int .i64 a, .int .i64 b, .int .u64 c, .agg g] := by
  unfold isPt at h
  split at h
  · exact ⟨_, _, _, _, rfl⟩
  · exact absurd h (by simp)
theorem uC_ex {d : D} (h : uC d = true) : ∃ i k c t c' p, d = .agg [.int .u64 i, .str k, .slice c t, .slice c' p] ∧ short k = true ∧ tC t = true ∧ p.all isPt = true := by
  unfold uC at h
  split at h
  · simp only [Bool.and_eq_true] at h; exact ⟨_, _, _, _, _, _, rfl, h.1, h.2.1, h.2.2⟩
  · exact absurd h (by simp)
theorem W36_ok : CallsOK (Γ mx) W36 := specs_ok (.cons (spL1s_ok k45) (.cons (sp1_ok k46) (.cons (spD1_ok l50) .nil)))
theorem g36 (b id : Int) (k : Tx) (c : Cp) (t : List D) (c' : Cp) (p : List D) (hp : p.all isPt = true) (hl : p.length ≤ 16) : ∀ (rest pre : List D) (i : Int), p = pre ++ rest → i = (pre.length : Int) →
    GoesP (Γ mx) W36 36 4 ⟨[(1, .i .u64 b), (2, .ptr 0 [] 93), (5, .i .i64 i)], [some (.box 93 (.d 93 (D.agg [D.int .u64 id, D.str k, D.slice c t, D.slice c' p])))]⟩ True
  | [], pre, i, he, hi => by
    subst hi
    refine GoesP.step (xp_of (fun n => w36_4a _ b _ id k c t c' p) ?_)
    refine xp_bif (fun h => ?_) (fun h => xp_some _ fun _ => trivial)
    have := of_decide_eq_true h; rw [he] at this; simp at this
  | y :: r, pre, i, he, hi => by
    subst hi
    have hlen : p.length = pre.length + (r.length + 1) := by rw [he]; simp
    have hg : p[((pre.length : Nat) : Int).toNat]? = some y := by rw [he]; exact get_mid pre y r
    have w1 : IntKind.wrap .i64 ((pre.length : Int) + 1) = (pre.length : Int) + 1 := wrapI (by omega) (by omega)
    have w2 : IntKind.wrap .i64 ((pre.length : Int) - 1) = (pre.length : Int) - 1 := wrapI (by omega) (by omega)
    have nx := xp_lab (g36 b id k c t c' p hp hl r (pre ++ [y]) ((pre.length : Int) + 1) (by rw [he]; simp) (by simp))
    have hy := List.all_eq_true.1 hp y (by rw [he]; simp)
    obtain ⟨a1, a2, a3, a4, rfl⟩ := pt_ex hy
    refine GoesP.step (xp_of (fun n => w36_4a _ b _ id k c t c' p) ?_)
    rw [w1, w2]
    refine xp_bif (fun h => ?_) (fun h => xp_some _ fun _ => trivial)
    refine xp_idx (by omega) hg ?_
    refine xp_agg (xp_lc (xp_i (xp_lc (xp_i (xp_lc (xp_u (xp_lc (xp_agg (xp_ln ?_)))))))))
    refine xp_must hy (xp_no fun _ => xp_idx (by omega) hg (xp_agg (xp_get rfl (xp_u (xp_no fun _ => xp_bif (fun h0 => ?_) (fun _ => nx))))))
    obtain ⟨z, hz, hm⟩ := get_some (l := p) (i := (pre.length : Int) - 1) (by have := of_decide_eq_true h0; omega) (by omega)
    obtain ⟨z1, z2, z3, z4, rfl⟩ := pt_ex (List.all_eq_true.1 hp z hm)
    exact xp_idx (by have := of_decide_eq_true h0; omega) hz (xp_agg (xp_get rfl (xp_i (xp_idx (by omega) hg (xp_agg (xp_get rfl (xp_i (xp_no fun _ => nx))))))))
theorem l36 (u : D) (b : Int) (h : uC u = true) : ∃ r, RetX (Γ mx) 36 [.d 93 u, .i .u64 b] [] (.b r) [] := by
  obtain ⟨id, k, c, t, c', p, rfl, h1, h2, h3⟩ := uC_ex h
  have : EXP True fun n => evF (Γ mx) W36 (L (Γ mx) W36 36 n) 36 [.d 93 (D.agg [D.int .u64 id, D.str k, D.slice c t, D.slice c' p]), .i .u64 b] [] := by
    refine xp_of (fun n => w36 _ id k c t c' p b) ?_
    refine xp_must h1 (xp_no fun _ => xp_must h2 (xp_no fun _ => xp_no fun h16 => xp_lab ?_))
    have := of_decide_eq_false h16
    exact g36 b id k c t c' p h3 (by omega) p [] 0 rfl rfl
  obtain ⟨m, r, hm, _⟩ := this
  exact ⟨r, ret_goes (Γ := Γ mx) hP hZ W36_ok (by kernel_rfl) ⟨m, hm⟩⟩
open Classical in
noncomputable def upB (mx : Int) (u : D) (b : Int) : Bool := if h : ∃ r, RetX (Γ mx) 36 [.d 93 u, .i .u64 b] [] (.b r) [] then Classical.choose h else false
theorem spUp_ok : SpecOK (Γ mx) ⟨36, dat (spUpv (upB mx))⟩ := dat_ok fun args r hr => by
  unfold spUpv at hr
  split at hr
  · rename_i u b
    simp only [Option.some.injEq, Prod.mk.injEq] at hr
    obtain ⟨h1, rfl⟩ := hr
    have he := l36 (mx := mx) u b h1
    unfold upB
    rw [dif_pos he]
    exact Classical.choose_spec he
  · exact absurd hr (by simp)
/-! ### a bucket, a state -/
def bkC : D → Bool
  | .agg [.str nm, .agg [.int .i64 _, .int .i64 _], .slice _ rs, .slice _ gs, .slice _ os, .slice _ us] => short nm && (rsC rs && (allG gs && (os.all oC && (decide (os.length ≤ 8388608) && us.all uC))))
  | _ => false
theorem bkC_ex {d : D} (h : bkC d = true) : ∃ nm md dy c1 rs c2 gs c3 os c4 us, d = .agg [.str nm, .agg [.int .i64 md, .int .i64 dy], .slice c1 rs, .slice c2 gs, .slice c3 os, .slice c4 us] ∧ short nm = true ∧ rsC rs = true ∧ allG gs = true ∧ os.all oC = true ∧ os.length ≤ 8388608 ∧ us.all uC = true := by
  unfold bkC at h
  split at h
  · simp only [Bool.and_eq_true, decide_eq_true_eq] at h; exact ⟨_, _, _, _, _, _, _, _, _, _, _, rfl, h.1, h.2.1, h.2.2.1, h.2.2.2.1, h.2.2.2.2.1, h.2.2.2.2.2⟩
  · exact absurd h (by simp)
def bObj : D → List D
  | .agg [.str _, .agg [.int .i64 _, .int .i64 _], .slice _ _, .slice _ _, .slice _ os, .slice _ _] => os
  | _ => []
def stC : D → Bool
  | .agg [.int .i64 _, .int .u64 _, .int .u64 _, .slice _ l] => l.all bkC
  | _ => false
theorem stC_ex {d : D} (h : stC d = true) : ∃ m n b c l, d = .agg [.int .i64 m, .int .u64 n, .int .u64 b, .slice c l] ∧ l.all bkC = true := by
  unfold stC at h
  split at h
  · exact ⟨_, _, _, _, _, rfl, h⟩
  · exact absurd h (by simp)
def isU : D → Bool
  | .int .u64 _ => true
  | _ => false
theorem isU_ex {d : D} (h : isU d = true) : ∃ n, d = .int .u64 n := by
  unfold isU at h
  split at h
  · exact ⟨_, rfl⟩
  · exact absurd h (by simp)
/-- a bucket's objects: sound, in order, few -/
def ltO (o : Option Tx) (k : Tx) : Bool := match o with | none => true | some p => lessB p k
def okOs : Option Tx → Int → List D → Bool
  | _, _, [] => true
  | o, n, y :: r => oSnd y && (ltO o (oKey y) && (decide (n + ((oVs y).length : Int) ≤ 256) && okOs (some (oKey y)) (n + ((oVs y).length : Int)) r))
def okSt (l : List D) : Prop := match l with | [] => True | y :: _ => okOs none 0 (bObj y) = true
variable (BK : Tx → Bool) (UP : D → Int → Bool)
theorem s41 {sm sn sb : Int} {sc : Cp} {sl ids : List D} {n1 : Int} {P : Prop} (hu : ids.all isU = true) (h1 : 0 ≤ n1) (h2 : n1 < (ids.length : Int)) (hb : ids.length ≤ 4194304)
    (hc : GoesP (Γ mx) (W18 BK UP) 18 36 ⟨[(1, .ptr 0 [] 24), (3, .ref 22 1), (12, .i .i64 (n1 + 1))], [some (.box 24 (.d 24 (D.agg [D.int .i64 sm, D.int .u64 sn, D.int .u64 sb, D.slice sc sl]))), some (.arr 22 ids false)]⟩ P) :
    ∀ (d : Nat) (n2 : Int), 0 ≤ n2 → n1 - n2 = (d : Int) → GoesP (Γ mx) (W18 BK UP) 18 41 ⟨[(1, .ptr 0 [] 24), (3, .ref 22 1), (12, .i .i64 n1), (13, .i .i64 n2)], [some (.box 24 (.d 24 (D.agg [D.int .i64 sm, D.int .u64 sn, D.int .u64 sb, D.slice sc sl]))), some (.arr 22 ids false)]⟩ P
  | 0, n2, h0, hd => by
    refine GoesP.step (xp_of (fun n => w18_41a BK UP _ n1 n2 sm sn sb sc sl ids) ?_)
    rw [show IntKind.wrap .i64 (n1 + 1) = n1 + 1 from wrapI (by omega) (by omega)]
    refine xp_bif (fun h => ?_) (fun _ => xp_lab hc)
    have := of_decide_eq_true h; omega
  | d + 1, n2, h0, hd => by
    have nx := xp_lab (s41 hu h1 h2 hb hc d (n2 + 1) (by omega) (by omega))
    obtain ⟨y, hy, hm⟩ := get_some (l := ids) (i := n2) h0 (by omega)
    obtain ⟨z, hz, hm'⟩ := get_some (l := ids) (i := n1) h1 h2
    obtain ⟨u, rfl⟩ := isU_ex (List.all_eq_true.1 hu y hm)
    obtain ⟨v, rfl⟩ := isU_ex (List.all_eq_true.1 hu z hm')
    refine GoesP.step (xp_of (fun n => w18_41a BK UP _ n1 n2 sm sn sb sc sl ids) ?_)
    rw [show IntKind.wrap .i64 (n2 + 1) = n2 + 1 from wrapI (by omega) (by omega)]
    refine xp_bif (fun h => ?_) (fun h => ?_)
    · refine xp_must (by rw [decide_eq_true h0, decide_eq_true (show n2 < (ids.length : Int) by omega)]; rfl) (xp_get hy (xp_u (xp_must (by rw [decide_eq_true h1, decide_eq_true h2]; rfl) (xp_get hz (xp_u (xp_no fun _ => nx))))))
    · have := of_decide_eq_false h; omega
theorem s36 {sm sn sb : Int} {sc : Cp} {sl ids : List D} {P : Prop} (hP : P) (hu : ids.all isU = true) (hb : ids.length ≤ 4194304) :
    ∀ (d : Nat) (n1 : Int), 0 ≤ n1 → (ids.length : Int) - n1 = (d : Int) → GoesP (Γ mx) (W18 BK UP) 18 36 ⟨[(1, .ptr 0 [] 24), (3, .ref 22 1), (12, .i .i64 n1)], [some (.box 24 (.d 24 (D.agg [D.int .i64 sm, D.int .u64 sn, D.int .u64 sb, D.slice sc sl]))), some (.arr 22 ids false)]⟩ P
  | 0, n1, h0, hd => by
    refine GoesP.step (xp_of (fun n => w18_36a BK UP _ n1 sm sn sb sc sl ids) ?_)
    refine xp_bif (fun h => ?_) (fun _ => xp_some _ fun _ => hP)
    have := of_decide_eq_true h; omega
  | d + 1, n1, h0, hd => by
    have hn := s36 (sm := sm) (sn := sn) (sb := sb) (sc := sc) (sl := sl) hP hu hb d (n1 + 1) (by omega) (by omega)
    have nx := xp_lab (s41 BK UP hu h0 (by omega) hb hn n1.toNat 0 (by omega) (by omega))
    obtain ⟨y, hy, hm⟩ := get_some (l := ids) (i := n1) h0 (by omega)
    obtain ⟨u, rfl⟩ := isU_ex (List.all_eq_true.1 hu y hm)
    have hc : (decide ((0 : Int) ≤ n1) && decide (n1 < (ids.length : Int))) = true := by rw [decide_eq_true h0, decide_eq_true (show n1 < (ids.length : Int) by omega)]; rfl
    refine GoesP.step (xp_of (fun n => w18_36a BK UP _ n1 sm sn sb sc sl ids) ?_)
    refine xp_bif (fun h => ?_) (fun h => ?_)
    · exact xp_must hc (xp_get hy (xp_u (xp_no fun _ => xp_must hc (xp_get hy (xp_u (xp_no fun _ => nx))))))
    · have := of_decide_eq_false h; omega
end Go.Proofs.Ytapaenfafjmljaa.V

/- Lists: meta.Sound ends; what it says of the first bucket if it is true: buckets, objects, versions, uploads. -/
namespace Go.Proofs.Ytapaenfafjmljaa.V
open Go
set_option maxRecDepth 100000
set_option linter.unusedVariables false
set_option linter.unusedSimpArgs false
variable {mx : Int}
theorem room8 {n : Nat} (h : n ≤ 10000000) : roomB n 8 = true := by
  unfold roomB
  simp only [Bool.and_eq_true, decide_eq_true_eq]
  exact ⟨rfl, by omega⟩
theorem u_snoc {l : List D} (h : l.all isU = true) (n : Int) : (l ++ [D.int .u64 n]).all isU = true := by rw [List.all_append, h]; rfl
variable (BK : Tx → Bool) (UP : D → Int → Bool)
theorem s28 {sm sn sb : Int} {sc : Cp} {sl : List D} {n1 i : Int} {nm : Tx} {md dy : Int} {c1 c2 c3 c4 : Cp} {rs gs os us : List D} {P : Prop} (N : Nat) (hN : N ≤ 4194304) (hi : 0 ≤ i) (hi2 : i ≤ 16) (hus : us.all uC = true) (hul : us.length ≤ 4)
    (hc : ∀ ids : List D, ids.all isU = true → ids.length ≤ N → GoesP (Γ mx) (W18 BK UP) 18 6 ⟨[(1, .ptr 0 [] 24), (3, .ref 22 1), (4, .i .i64 n1), (5, .i .i64 (i + 1))], [some (.box 24 (.d 24 (D.agg [D.int .i64 sm, D.int .u64 sn, D.int .u64 sb, D.slice sc sl]))), some (.arr 22 ids false)]⟩ P) :
    ∀ (rest pre ids : List D) (k : Int), us = pre ++ rest → k = (pre.length : Int) → ids.all isU = true → ids.length + rest.length ≤ N →
    GoesP (Γ mx) (W18 BK UP) 18 28 ⟨[(1, .ptr 0 [] 24), (3, .ref 22 1), (4, .i .i64 n1), (5, .i .i64 i), (6, .ptr 2 [] 32), (11, .i .i64 k)], [some (.box 24 (.d 24 (D.agg [D.int .i64 sm, D.int .u64 sn, D.int .u64 sb, D.slice sc sl]))), some (.arr 22 ids false), some (.box 32 (.d 32 (D.agg [D.str nm, D.agg [D.int .i64 md, D.int .i64 dy], D.slice c1 rs, D.slice c2 gs, D.slice c3 os, D.slice c4 us])))]⟩ P
  | [], pre, ids, k, he, hk, hu, hl => by
    subst hk
    refine GoesP.step (xp_of (fun n => w18_28a BK UP _ n1 i _ sm sn sb sc sl ids nm md dy c1 rs c2 gs c3 os c4 us) ?_)
    rw [show IntKind.wrap .i64 (i + 1) = i + 1 from wrapI (by omega) (by omega)]
    refine xp_bif (fun h => ?_) (fun _ => xp_lab (hc ids hu (by simpa using hl)))
    have := of_decide_eq_true h; rw [he] at this; simp at this
  | y :: r, pre, ids, k, he, hk, hu, hl => by
    subst hk
    have hlen : us.length = pre.length + (r.length + 1) := by rw [he]; simp
    have hg : us[((pre.length : Nat) : Int).toNat]? = some y := by rw [he]; exact get_mid pre y r
    have w1 : IntKind.wrap .i64 ((pre.length : Int) + 1) = (pre.length : Int) + 1 := wrapI (by omega) (by omega)
    have w2 : IntKind.wrap .i64 ((pre.length : Int) - 1) = (pre.length : Int) - 1 := wrapI (by omega) (by omega)
    have hy := List.all_eq_true.1 hus y (by rw [he]; simp)
    have nx : ∀ id : Int, _ := fun id => xp_lab (s28 (nm := nm) (md := md) (dy := dy) (c1 := c1) (c2 := c2) (c3 := c3) (c4 := c4) (rs := rs) (gs := gs) (os := os) N hN hi hi2 hus hul hc r (pre ++ [y]) (ids ++ [D.int .u64 id]) ((pre.length : Int) + 1) (by rw [he]; simp) (by simp) (u_snoc hu id) (by simp at hl ⊢; omega))
    obtain ⟨id, uk, uc, ut, uc', up, rfl, _, _, _⟩ := uC_ex hy
    have hr : roomB (ids.length + 1) 8 = true := room8 (by simp at hl; omega)
    refine GoesP.step (xp_of (fun n => w18_28a BK UP _ n1 i _ sm sn sb sc sl ids nm md dy c1 rs c2 gs c3 os c4 us) ?_)
    rw [w1, w2]
    refine xp_bif (fun h => ?_) (fun h => ?_)
    · refine xp_idx (by omega) hg (xp_agg (xp_lc (xp_u (xp_lc (xp_s (xp_lc (xp_sl (xp_lc (xp_sl (xp_ln ?_))))))))))
      refine xp_must hy (xp_no fun _ => xp_bif (fun h0 => ?_) (fun _ => ?_))
      · have h0 := of_decide_eq_true h0
        obtain ⟨z, hz, hm⟩ := get_some (l := us) (i := (pre.length : Int) - 1) (by omega) (by omega)
        obtain ⟨zi, zk, zc, zt, zc', zp, rfl, _, _, _⟩ := uC_ex (List.all_eq_true.1 hus z hm)
        refine xp_idx (by omega) hz (xp_agg (xp_get rfl (xp_u (xp_idx (by omega) hg (xp_agg (xp_get rfl (xp_u (xp_no fun _ => ?_))))))))
        exact xp_idx (by omega) hg (xp_agg (xp_get rfl (xp_u (xp_must hr (nx id)))))
      · exact xp_idx (by omega) hg (xp_agg (xp_get rfl (xp_u (xp_must hr (nx id)))))
    · have := of_decide_eq_false h; omega
theorem s21 {sm sn sb : Int} {sc : Cp} {sl : List D} {n1 i k : Int} {nm : Tx} {md dy : Int} {c1 c2 c3 c4 : Cp} {rs gs os us : List D} {ok : Tx} {oc : Cp} {vs : List D} {P : Prop} (N : Nat) (hN : N ≤ 4194304) (hk : 0 ≤ k) (hk2 : k ≤ 8388608) (hvs : vs.all vC = true) (hvl : vs.length ≤ 8388608)
    (hc : ∀ ids : List D, ids.all isU = true → ids.length ≤ N → GoesP (Γ mx) (W18 BK UP) 18 12 ⟨[(1, .ptr 0 [] 24), (3, .ref 22 1), (4, .i .i64 n1), (5, .i .i64 i), (6, .ptr 2 [] 32), (7, .i .i64 (k + 1))], [some (.box 24 (.d 24 (D.agg [D.int .i64 sm, D.int .u64 sn, D.int .u64 sb, D.slice sc sl]))), some (.arr 22 ids false), some (.box 32 (.d 32 (D.agg [D.str nm, D.agg [D.int .i64 md, D.int .i64 dy], D.slice c1 rs, D.slice c2 gs, D.slice c3 os, D.slice c4 us])))]⟩ P) :
    ∀ (rest pre ids : List D) (j : Int), vs = pre ++ rest → j = (pre.length : Int) → ids.all isU = true → ids.length + rest.length ≤ N →
    GoesP (Γ mx) (W18 BK UP) 18 21 ⟨[(1, .ptr 0 [] 24), (3, .ref 22 1), (4, .i .i64 n1), (5, .i .i64 i), (6, .ptr 2 [] 32), (7, .i .i64 k), (8, .ptr 3 [] 59), (9, .i .i64 j)], [some (.box 24 (.d 24 (D.agg [D.int .i64 sm, D.int .u64 sn, D.int .u64 sb, D.slice sc sl]))), some (.arr 22 ids false), some (.box 32 (.d 32 (D.agg [D.str nm, D.agg [D.int .i64 md, D.int .i64 dy], D.slice c1 rs, D.slice c2 gs, D.slice c3 os, D.slice c4 us]))), some (.box 59 (.d 59 (D.agg [D.str ok, D.slice oc vs])))]⟩ P
  | [], pre, ids, j, he, hj, hu, hl => by
    subst hj
    refine GoesP.step (xp_of (fun n => w18_21a BK UP _ n1 i k _ sm sn sb sc sl ids nm md dy c1 rs c2 gs c3 os c4 us ok oc vs) ?_)
    rw [show IntKind.wrap .i64 (k + 1) = k + 1 from wrapI (by omega) (by omega)]
    refine xp_bif (fun h => ?_) (fun _ => xp_lab (hc ids hu (by simpa using hl)))
    have := of_decide_eq_true h; rw [he] at this; simp at this
  | y :: r, pre, ids, j, he, hj, hu, hl => by
    subst hj
    have hlen : vs.length = pre.length + (r.length + 1) := by rw [he]; simp
    have hg : vs[((pre.length : Nat) : Int).toNat]? = some y := by rw [he]; exact get_mid pre y r
    have w1 : IntKind.wrap .i64 ((pre.length : Int) + 1) = (pre.length : Int) + 1 := wrapI (by omega) (by omega)
    obtain ⟨v, rfl, _⟩ := vC_ex (List.all_eq_true.1 hvs y (by rw [he]; simp))
    have nx := xp_lab (s21 (ok := ok) (oc := oc) N hN hk hk2 hvs hvl hc r (pre ++ [vD v]) (ids ++ [D.int .u64 v.id]) ((pre.length : Int) + 1) (by rw [he]; simp) (by simp) (u_snoc hu v.id) (by simp at hl ⊢; omega))
    have hr : roomB (ids.length + 1) 8 = true := room8 (by simp at hl; omega)
    refine GoesP.step (xp_of (fun n => w18_21a BK UP _ n1 i k _ sm sn sb sc sl ids nm md dy c1 rs c2 gs c3 os c4 us ok oc vs) ?_)
    rw [w1]
    refine xp_bif (fun h => ?_) (fun h => ?_)
    · refine xp_idx (by omega) hg (xp_agg (xp_lc (xp_u (xp_lc (xp_b (xp_lc (xp_i (xp_lc (xp_u (xp_lc (xp_agg (xp_lc (xp_i (xp_lc (xp_agg (xp_lc (xp_i (xp_lc (xp_i (xp_lc (xp_b (xp_ln (xp_lc (xp_sl (xp_ln ?_)))))))))))))))))))))))))
      exact xp_no fun _ => xp_no fun _ => xp_must hr nx
    · have := of_decide_eq_false h; omega
theorem s12 {sm sn sb : Int} {sc : Cp} {sl : List D} {i : Int} {nm : Tx} {md dy : Int} {c1 c2 c3 c4 : Cp} {rs gs os us : List D} {P Q : Prop} (B : Nat) (hB : B ≤ 1000) (hos : os.all oC = true) (hol : os.length ≤ 8388608)
    (hc : ∀ (n1 : Int) (ids : List D), 0 ≤ n1 → n1 ≤ 256 → ids.all isU = true → (ids.length : Int) ≤ n1 + B → Q → GoesP (Γ mx) (W18 BK UP) 18 28 ⟨[(1, .ptr 0 [] 24), (3, .ref 22 1), (4, .i .i64 n1), (5, .i .i64 i), (6, .ptr 2 [] 32), (11, .i .i64 0)], [some (.box 24 (.d 24 (D.agg [D.int .i64 sm, D.int .u64 sn, D.int .u64 sb, D.slice sc sl]))), some (.arr 22 ids false), some (.box 32 (.d 32 (D.agg [D.str nm, D.agg [D.int .i64 md, D.int .i64 dy], D.slice c1 rs, D.slice c2 gs, D.slice c3 os, D.slice c4 us])))]⟩ P) :
    ∀ (rest pre ids : List D) (prev : Option Tx) (n1 k : Int), os = pre ++ rest → k = (pre.length : Int) → (∀ p, prev = some p → ∃ pre' o, pre = pre' ++ [o] ∧ oKey o = p) → (prev = none → pre = []) → 0 ≤ n1 → n1 ≤ 256 → ids.all isU = true → (ids.length : Int) ≤ n1 + B → (okOs prev n1 rest = true → Q) →
    GoesP (Γ mx) (W18 BK UP) 18 12 ⟨[(1, .ptr 0 [] 24), (3, .ref 22 1), (4, .i .i64 n1), (5, .i .i64 i), (6, .ptr 2 [] 32), (7, .i .i64 k)], [some (.box 24 (.d 24 (D.agg [D.int .i64 sm, D.int .u64 sn, D.int .u64 sb, D.slice sc sl]))), some (.arr 22 ids false), some (.box 32 (.d 32 (D.agg [D.str nm, D.agg [D.int .i64 md, D.int .i64 dy], D.slice c1 rs, D.slice c2 gs, D.slice c3 os, D.slice c4 us])))]⟩ P
  | [], pre, ids, prev, n1, k, he, hk, _, _, h0, h256, hu, hl, hQ => by
    subst hk
    refine GoesP.step (xp_of (fun n => w18_12a BK UP _ n1 i _ sm sn sb sc sl ids nm md dy c1 rs c2 gs c3 os c4 us) ?_)
    refine xp_bif (fun h => ?_) (fun _ => xp_lab (hc n1 ids h0 h256 hu hl (hQ rfl)))
    have := of_decide_eq_true h; rw [he] at this; simp at this
  | y :: r, pre, ids, prev, n1, k, he, hk, hp1, hp2, h0, h256, hu, hl, hQ => by
    subst hk
    have hlen : os.length = pre.length + (r.length + 1) := by rw [he]; simp
    have hg : os[((pre.length : Nat) : Int).toNat]? = some y := by rw [he]; exact get_mid pre y r
    have w2 : IntKind.wrap .i64 ((pre.length : Int) - 1) = (pre.length : Int) - 1 := wrapI (by omega) (by omega)
    have hy := List.all_eq_true.1 hos y (by rw [he]; simp)
    obtain ⟨yk, yc, vs, rfl, _, hvs⟩ := oC_ex hy
    obtain ⟨hvl, hva⟩ := vsC_eq hvs
    have w3 : IntKind.wrap .i64 (n1 + (vs.length : Int)) = n1 + (vs.length : Int) := wrapI (by omega) (by omega)
    -- behind the checks
    have tail : oSnd (D.agg [D.str yk, D.slice yc vs]) = true → ltO prev yk = true → EXP P fun n => bif decide ((IntKind.wrap .i64 (n1 + (vs.length : Int))) > 256) then (some (.b false, [])) else (L (Γ mx) (W18 BK UP) 18 n (todoAt (Γ mx) 18 21) ⟨[(1, .ptr 0 [] 24), (3, .ref 22 1), (4, .i .i64 (IntKind.wrap .i64 (n1 + (vs.length : Int)))), (5, .i .i64 i), (6, .ptr 2 [] 32), (7, .i .i64 (pre.length : Int)), (8, .ptr 3 [] 59), (9, .i .i64 0)], [some (.box 24 (.d 24 (D.agg [D.int .i64 sm, D.int .u64 sn, D.int .u64 sb, D.slice sc sl]))), some (.arr 22 ids false), some (.box 32 (.d 32 (D.agg [D.str nm, D.agg [D.int .i64 md, D.int .i64 dy], D.slice c1 rs, D.slice c2 gs, D.slice c3 os, D.slice c4 us]))), some (.box 59 (.d 59 (D.agg [D.str yk, D.slice yc vs])))]⟩) := by
      intro hs hlt
      rw [w3]
      refine xp_no fun hc256 => xp_lab ?_
      have hc256 := of_decide_eq_false hc256
      refine s21 BK UP (mx := mx) (ids.length + vs.length) (by omega) (by omega) (by omega) hva hvl (fun ids' hu' hl' => ?_) vs [] ids 0 rfl rfl hu (Nat.le_refl _)
      refine s12 B hB hos hol hc r (pre ++ [D.agg [D.str yk, D.slice yc vs]]) ids' (some yk) (n1 + (vs.length : Int)) ((pre.length : Int) + 1) (by rw [he]; simp) (by simp) (fun p hp => ⟨pre, _, rfl, by cases hp; rfl⟩) (fun h => absurd h (by simp)) (by omega) (by omega) hu' (by omega) (fun h => hQ ?_)
      unfold okOs
      rw [hs]
      show (true && (ltO prev yk && (decide (n1 + (vs.length : Int) ≤ 256) && okOs (some yk) (n1 + (vs.length : Int)) r))) = true
      rw [hlt, decide_eq_true (show n1 + (vs.length : Int) ≤ 256 by omega), h]; rfl
    refine GoesP.step (xp_of (fun n => w18_12a BK UP _ n1 i _ sm sn sb sc sl ids nm md dy c1 rs c2 gs c3 os c4 us) ?_)
    rw [w2]
    refine xp_bif (fun h => ?_) (fun h => ?_)
    · refine xp_idx (by omega) hg (xp_agg (xp_lc (xp_s (xp_lc (xp_sl (xp_ln ?_))))))
      refine xp_must hy (xp_no fun hs => xp_bif (fun hk0 => ?_) (fun hk0 => ?_))
      · have hk0 := of_decide_eq_true hk0
        have hs : oSnd (D.agg [D.str yk, D.slice yc vs]) = true := by simpa using hs
        cases prev with
        | none => rw [hp2 rfl] at hk0; simp at hk0
        | some p =>
          obtain ⟨pre', o, hpre, hko⟩ := hp1 p rfl
          have hz : os[((pre.length : Int) - 1).toNat]? = some o := by
            rw [he, hpre]
            exact get_last pre' o _ rfl
          obtain ⟨zk, zc, zvs, rfl, _, _⟩ := oC_ex (List.all_eq_true.1 hos o (by rw [he, hpre]; simp))
          refine xp_idx (by omega) hz (xp_agg (xp_get rfl (xp_s (xp_no fun hlt => tail hs ?_))))
          have : lessB zk yk = true := by simpa using hlt
          have hzk : zk = p := hko
          rw [← hzk]; exact this
      · have hk0 := of_decide_eq_false hk0
        have hs : oSnd (D.agg [D.str yk, D.slice yc vs]) = true := by simpa using hs
        cases prev with
        | none => exact tail hs rfl
        | some p =>
          obtain ⟨pre', o, hpre, _⟩ := hp1 p rfl
          rw [hpre] at hk0; simp at hk0
    · have := of_decide_eq_false h; omega
end Go.Proofs.Ytapaenfafjmljaa.V

/- Lists: meta.Sound, the contract: some truth value; if it is true, the first bucket's objects are sound, in order, few. -/
namespace Go.Proofs.Ytapaenfafjmljaa.V
open Go
set_option maxRecDepth 100000
set_option linter.unusedVariables false
set_option linter.unusedSimpArgs false
variable {mx : Int}
theorem okSt_nil : okSt [] := trivial
theorem isDf_mk (a b : Int) : isDf (D.agg [D.int .i64 a, D.int .i64 b]) = true := rfl
variable (BK : Tx → Bool) (UP : D → Int → Bool)
theorem s6 {sm sn sb : Int} {sc : Cp} {sl : List D} (hsl : sl.all bkC = true) (hll : sl.length ≤ 16) :
    ∀ (rest pre ids : List D) (n1 i : Int), sl = pre ++ rest → i = (pre.length : Int) → 0 ≤ n1 → n1 ≤ 256 → ids.all isU = true → (ids.length : Int) ≤ n1 + 4 * i → (pre = [] → n1 = 0) → (pre ≠ [] → okSt sl) →
    GoesP (Γ mx) (W18 BK UP) 18 6 ⟨[(1, .ptr 0 [] 24), (3, .ref 22 1), (4, .i .i64 n1), (5, .i .i64 i)], [some (.box 24 (.d 24 (D.agg [D.int .i64 sm, D.int .u64 sn, D.int .u64 sb, D.slice sc sl]))), some (.arr 22 ids false)]⟩ (okSt sl)
  | [], pre, ids, n1, i, he, hi, h0, h256, hu, hl, hz, hP => by
    subst hi
    have hk : okSt sl := by
      cases pre with
      | nil => rw [he]; exact okSt_nil
      | cons a b => exact hP (by simp)
    have hpl : pre.length ≤ 16 := by rw [he] at hll; simp at hll; omega
    refine GoesP.step (xp_of (fun n => w18_6a BK UP _ n1 _ sm sn sb sc sl ids) ?_)
    refine xp_bif (fun h => ?_) (fun _ => xp_lab (s36 BK UP hk hu (by omega) ids.length 0 (by omega) (by omega)))
    have := of_decide_eq_true h; rw [he] at this; simp at this
  | y :: r, pre, ids, n1, i, he, hi, h0, h256, hu, hl, hz, hP => by
    subst hi
    have hlen : sl.length = pre.length + (r.length + 1) := by rw [he]; simp
    have hg : sl[((pre.length : Nat) : Int).toNat]? = some y := by rw [he]; exact get_mid pre y r
    have w2 : IntKind.wrap .i64 ((pre.length : Int) - 1) = (pre.length : Int) - 1 := wrapI (by omega) (by omega)
    have hy := List.all_eq_true.1 hsl y (by rw [he]; simp)
    obtain ⟨nm, md, dy, c1, rs, c2, gs, c3, os, c4, us, hye, k1, k2, k3, k4, k5, k6⟩ := bkC_ex hy
    have hQ : okOs none n1 os = true → okSt sl := fun h => by
      cases pre with
      | nil =>
        rw [he]
        show okOs none 0 (bObj y) = true
        rw [hz rfl] at h
        rw [hye]; exact h
      | cons a b => exact hP (by simp)
    have tail : us.length ≤ 4 → GoesP (Γ mx) (W18 BK UP) 18 12 ⟨[(1, .ptr 0 [] 24), (3, .ref 22 1), (4, .i .i64 n1), (5, .i .i64 (pre.length : Int)), (6, .ptr 2 [] 32), (7, .i .i64 0)], [some (.box 24 (.d 24 (D.agg [D.int .i64 sm, D.int .u64 sn, D.int .u64 sb, D.slice sc sl]))), some (.arr 22 ids false), some (.box 32 (.d 32 (D.agg [D.str nm, D.agg [D.int .i64 md, D.int .i64 dy], D.slice c1 rs, D.slice c2 gs, D.slice c3 os, D.slice c4 us])))]⟩ (okSt sl) := by
      intro h4
      refine s12 BK UP (mx := mx) (Q := okSt sl) (4 * pre.length) (by omega) k4 k5 (fun n1' ids' g0 g256 gu gl hq => ?_) os [] ids none n1 0 rfl rfl (fun p hp => by cases hp) (fun _ => rfl) h0 h256 hu (by omega) hQ
      refine s28 BK UP (mx := mx) (ids'.length + us.length) (by omega) (by omega) (by omega) k6 h4 (fun ids2 u2 l2 => ?_) us [] ids' 0 rfl rfl gu (Nat.le_refl _)
      exact s6 hsl hll r (pre ++ [y]) ids2 n1' ((pre.length : Int) + 1) (by rw [he]; simp) (by simp) g0 g256 u2 (by omega) (fun e => absurd e (by simp)) (fun _ => hq)
    subst hye
    refine GoesP.step (xp_of (fun n => w18_6a BK UP _ n1 _ sm sn sb sc sl ids) ?_)
    rw [w2]
    refine xp_bif (fun h => ?_) (fun h => ?_)
    · refine xp_idx (by omega) hg (xp_agg (xp_lc (xp_s (xp_lc (xp_agg (xp_lc (xp_i (xp_lc (xp_i (xp_ln (xp_lc (xp_sl (xp_lc (xp_sl (xp_lc (xp_sl (xp_lc (xp_sl (xp_ln ?_)))))))))))))))))))
      refine xp_must k1 (xp_no fun _ => xp_bif (fun hi0 => ?_) (fun _ => ?_))
      · have hi0 := of_decide_eq_true hi0
        obtain ⟨z, hz', hm⟩ := get_some (l := sl) (i := (pre.length : Int) - 1) (by omega) (by omega)
        obtain ⟨znm, zmd, zdy, zc1, zrs, zc2, zgs, zc3, zos, zc4, zus, rfl, _⟩ := bkC_ex (List.all_eq_true.1 hsl z hm)
        refine xp_idx (by omega) hz' (xp_agg (xp_get rfl (xp_s (xp_no fun _ => ?_))))
        exact xp_must (isDf_mk _ _) (xp_no fun _ => xp_must k2 (xp_no fun _ => xp_must k3 (xp_no fun _ => xp_no fun h4 => xp_lab (tail (by have := of_decide_eq_false h4; omega)))))
      · exact xp_must (isDf_mk _ _) (xp_no fun _ => xp_must k2 (xp_no fun _ => xp_must k3 (xp_no fun _ => xp_no fun h4 => xp_lab (tail (by have := of_decide_eq_false h4; omega)))))
    · have := of_decide_eq_false h; omega
theorem W18_ok : CallsOK (Γ mx) (W18 (bktB mx) (upB mx)) := specs_ok (.cons (spClamp_ok k99) (.cons (sp1_ok c31') (.cons (spD1_ok l32) (.cons (spL1_ok k16) (.cons (spL1_ok c17) (.cons (spD1_ok k17) (.cons spUp_ok .nil)))))))
def stL : D → List D
  | .agg [.int .i64 _, .int .u64 _, .int .u64 _, .slice _ l] => l
  | _ => []
theorem l18 (s : D) (h : stC s = true) : ∃ b, RetX (Γ mx) 18 [.d 24 s] [] (.b b) [] ∧ (b = true → okSt (stL s)) := by
  obtain ⟨m, n, b, c, l, rfl, hl⟩ := stC_ex h
  have : EXP (okSt l) fun k => evF (Γ mx) (W18 (bktB mx) (upB mx)) (L (Γ mx) (W18 (bktB mx) (upB mx)) 18 k) 18 [.d 24 (D.agg [D.int .i64 m, D.int .u64 n, D.int .u64 b, D.slice c l])] [] := by
    refine xp_of (fun k => w18 (bktB mx) (upB mx) _ m n b c l) ?_
    refine xp_no fun _ => xp_no fun _ => xp_no fun _ => xp_no fun _ => xp_no fun _ => xp_no fun h16 => xp_lab ?_
    have := of_decide_eq_false h16
    exact s6 (bktB mx) (upB mx) hl (by omega) l [] [] 0 0 rfl rfl (by omega) (by omega) rfl (by simp) (fun _ => rfl) (fun e => absurd rfl e)
  obtain ⟨k, r, hk, hp⟩ := this
  exact ⟨r, ret_goes (Γ := Γ mx) hP hZ W18_ok (by kernel_rfl) ⟨k, hk⟩, hp⟩
open Classical in
noncomputable def sndB (mx : Int) (s : D) : Bool := if h : ∃ b, RetX (Γ mx) 18 [.d 24 s] [] (.b b) [] ∧ (b = true → okSt (stL s)) then Classical.choose h else false
theorem c18' (s : D) (h : stC s = true) : RetX (Γ mx) 18 [.d 24 s] [] (.b (sndB mx s)) [] := by
  have he := l18 (mx := mx) s h
  unfold sndB
  rw [dif_pos he]
  exact (Classical.choose_spec he).1
theorem snd_ok {s : D} (h : stC s = true) (hs : sndB mx s = true) : okSt (stL s) := by
  have he := l18 (mx := mx) s h
  unfold sndB at hs
  rw [dif_pos he] at hs
  exact (Classical.choose_spec he).2 hs
end Go.Proofs.Ytapaenfafjmljaa.V

/- Lists: what the machine over values makes of the functions: equations, written by program. -/
namespace Go.Proofs.Ytapaenfafjmljaa.V
open Go
set_option maxRecDepth 100000
set_option linter.unusedVariables false
set_option linter.unusedSimpArgs false
variable {mx : Int}
def gC (k p m : Tx) : Bool := short k && (short p && short m)
def grpS (k p m : Tx) : Tx := (grpO k p m).getD []
def grpB (k p m : Tx) : Bool := (grpO k p m).isSome
def spRow : List AV → Option (Bool × AV)
  | [.s k, .d 52 v, .b l] => some (vC v, .d 54 (mkRow k false (cloneD v) l))
  | _ => none
def rw1 : D → Bool
  | .agg [.str _, .bool _, v, .bool _] => vC v
  | _ => false
def rwC (l : List D) : Bool := decide (l.length ≤ 8388608) && l.all rw1
def pgC (n : Int) : Bool := decide (0 ≤ n)
def spPg : List AV → Option (Bool × AV)
  | [.sl 54 _ l, .i .i64 n] => some (pgC n, .tuple [.sl 54 .any (List.take (Int.toNat n) l), .b (decide (n < (List.length l : Int)))])
  | _ => none
def isSp : D → Bool
  | .agg [.str _, .str _, .int .u64 _] => true
  | _ => false
def spK : D → Tx
  | .agg [.str _, .str k, .int _ _] => k
  | _ => []
def spI : D → Int
  | .agg [.str _, .str _, .int _ i] => i
  | _ => 0
/-- is there a page of so many? -/
def pgE (n : Int) : Int := bif decide (n < 1) then 1 else bif decide (n > 100) then 1 else 0
def vRows (b : D) (p : Tx) (s : D) : List (Vr Ver) := rowsV (fun k => hpB k p) Ver.id ((bObj b).map oP) (spK s) (spI s)
def vyL (f : Vr Ver → D) (b : D) (p : Tx) (s : D) (n : Int) : List D := bif pgE n == 0 then ((vRows b p s).take n.toNat).map f else []
def vyM (b : D) (p : Tx) (s : D) (n : Int) : Bool := pgE n == 0 && decide (n < ((vRows b p s).length : Int))
def totV : List D → Nat
  | [] => 0
  | o :: r => (oVs o).length + totV r
/-- a bucket of few versions -/
def bkS (b : D) : Bool := bkC b && decide (totV (bObj b) ≤ 4096)
def spVy (f : Vr Ver → D) : List AV → Option (Bool × AV)
  | [.d 32 b, .s p, .d 43 s, .i .i64 n] => some (bkS b && isSp s, .tuple [.sl 54 .any (vyL f b p s n), .b (vyM b p s n), .i .i64 (pgE n)])
  | _ => none
def kRows (b : D) (p m a : Tx) : List (Rw Ver) := rowsF (kitV p m) ((bObj b).map kvO) a
def kyL (f : Rw Ver → D) (b : D) (p m a : Tx) (n : Int) : List D := bif pgE n == 0 then ((kRows b p m a).take n.toNat).map f else []
def kyM (b : D) (p m a : Tx) (n : Int) : Bool := pgE n == 0 && decide (n < ((kRows b p m a).length : Int))
def spKy (f : Rw Ver → D) : List AV → Option (Bool × AV)
  | [.d 32 b, .s p, .s m, .s a, .i .i64 n] => some (bkS b && gC p m a, .tuple [.sl 54 .any (kyL f b p m a n), .b (kyM b p m a n), .i .i64 (pgE n)])
  | _ => none
def bk0 : D := .agg [.str [], .agg [.int .i64 0, .int .i64 0], .slice .nl [], .slice .nl [], .slice .nl [], .slice .nl []]
noncomputable def firB (mx : Int) (s : D) : Bool := sndB mx s && !(stL s).isEmpty
noncomputable def firD (mx : Int) (s : D) : D := bif firB mx s then (stL s).headD bk0 else bk0
def xAdd : List AV → Objs → Option (Bool × AV × Objs)
  | [.ptr 0 [] 69, .d 54 (.agg fs)], [some (.box 69 (.d 69 (.agg [.slice .nl [], .int .i64 m, .bool b])))] => some (!((0 : Int) == m), .b true, [some (.box 69 (.agg 69 [.ref 54 1, .i .i64 m, .b b])), some (.arr 54 [.agg fs] false)])
  | [.ptr 0 [] 69, .d 54 (.agg fs)], [some (.box 69 (.agg 69 [.ref 54 1, .i .i64 m, .b b])), some (.arr 54 l false)] => some (roomB (List.length l + 1) 152, .b (!((List.length l : Int) == m)), [some (.box 69 (.agg 69 [.ref 54 1, .i .i64 m, .b (b || ((List.length l : Int) == m))])), some (.arr 54 (bif ((List.length l : Int) == m) then l else l ++ [.agg fs]) false)])
  | _, _ => none
theorem nw22 (lab : Lab) (fs : List D) (m : Int) (b : Bool) : evF (Γ mx) (runS []) lab 22 [.ptr 0 [] 69, .d 54 (D.agg fs)] [some (.box 69 (.d 69 (D.agg [D.slice .nl [], D.int .i64 m, D.bool b])))] =
  bif 0 == m then (some (.b false, [some (.box 69 (.d 69 (D.agg [D.slice .nl [], D.int .i64 m, D.bool true])))])) else (some (.b true, [some (.box 69 (.agg 69 [.ref 54 1, .i .i64 m, .b b])), some (.arr 54 [D.agg fs] false)])) := by kernel_rfl
theorem aw22 (lab : Lab) (fs : List D) (m : Int) (b : Bool) (l : List D) : evF (Γ mx) (runS []) lab 22 [.ptr 0 [] 69, .d 54 (D.agg fs)] [some (.box 69 (.agg 69 [.ref 54 1, .i .i64 m, .b b])), some (.arr 54 l false)] =
  bif ((l.length : Int)) == m then (some (.b false, [some (.box 69 (.agg 69 [.ref 54 1, .i .i64 m, .b true])), some (.arr 54 l false)])) else (bif roomB (l.length + 1) 152 then (some (.b true, [some (.box 69 (.agg 69 [.ref 54 1, .i .i64 m, .b b])), some (.arr 54 (l ++ [D.agg fs]) false)])) else none) := by kernel_rfl
def W20 : Handle := runS [⟨38, dat (spD1 52 vC fun v => .d 52 (cloneD v))⟩]
theorem w20 (lab : Lab) (k : List UInt8) (vid : Int) (vmk : Bool) (vsz : Int) (vbl : Int) (vdg : List D) (vcr : Int) (vmd : Int) (vun : Int) (vho : Bool) (vc : Cp) (vtg : List D) (l : Bool) : evF (Γ mx) W20 lab 20 [.s k, .d 52 (D.agg [D.int .u64 vid, D.bool vmk, D.int .i64 vsz, D.int .u64 vbl, D.agg vdg, D.int .i64 vcr, D.agg [D.int .i64 vmd, D.int .i64 vun, D.bool vho], D.slice vc vtg]), .b l] [] =
  bif vC (D.agg [D.int .u64 vid, D.bool vmk, D.int .i64 vsz, D.int .u64 vbl, D.agg vdg, D.int .i64 vcr, D.agg [D.int .i64 vmd, D.int .i64 vun, D.bool vho], D.slice vc vtg]) then (dAgg ((cloneD (D.agg [D.int .u64 vid, D.bool vmk, D.int .i64 vsz, D.int .u64 vbl, D.agg vdg, D.int .i64 vcr, D.agg [D.int .i64 vmd, D.int .i64 vun, D.bool vho], D.slice vc vtg]))) fun y1 => lCons y1 fun a2 r3 => dInt .u64 a2 fun n4 => lCons r3 fun a5 r6 => dBool a5 fun b7 => lCons r6 fun a8 r9 => dInt .i64 a8 fun n10 => lCons r9 fun a11 r12 => dInt .u64 a11 fun n13 => lCons r12 fun a14 r15 => dAgg a14 fun y16 => lCons r15 fun a17 r18 => dInt .i64 a17 fun n19 => lCons r18 fun a20 r21 => dAgg a20 fun y22 => lCons y22 fun a23 r24 => dInt .i64 a23 fun n25 => lCons r24 fun a26 r27 => dInt .i64 a26 fun n28 => lCons r27 fun a29 r30 => dBool a29 fun b31 => lNil r30 (lCons r21 fun a32 r33 => dSlice a32 fun c34 l35 => lNil r33 (some (.d 54 (D.agg [D.str k, D.bool false, D.agg [D.int .u64 n4, D.bool b7, D.int .i64 n10, D.int .u64 n13, D.agg y16, D.int .i64 n19, D.agg [D.int .i64 n25, D.int .i64 n28, D.bool b31], D.slice c34 l35], D.bool l]), [])))) else none := by kernel_rfl
def W26 : Handle := runS [⟨41, dat (spLL 82 82 (fun a b => tC a && tC b) fun a b => .b (sameT a b))⟩]
theorem w26 (lab : Lab) (vid : Int) (vmk : Bool) (vsz : Int) (vbl : Int) (vdg : List D) (vcr : Int) (vmd : Int) (vun : Int) (vho : Bool) (vc : Cp) (vtg : List D) (wid : Int) (wmk : Bool) (wsz : Int) (wbl : Int) (wdg : List D) (wcr : Int) (wmd : Int) (wun : Int) (who : Bool) (wc : Cp) (wtg : List D) : evF (Γ mx) W26 lab 26 [.d 52 (D.agg [D.int .u64 vid, D.bool vmk, D.int .i64 vsz, D.int .u64 vbl, D.agg vdg, D.int .i64 vcr, D.agg [D.int .i64 vmd, D.int .i64 vun, D.bool vho], D.slice vc vtg]), .d 52 (D.agg [D.int .u64 wid, D.bool wmk, D.int .i64 wsz, D.int .u64 wbl, D.agg wdg, D.int .i64 wcr, D.agg [D.int .i64 wmd, D.int .i64 wun, D.bool who], D.slice wc wtg])] [] =
  bif vid != wid then (some (.b false, [])) else (bif !(vmk == wmk) then (some (.b false, [])) else (bif vsz != wsz then (some (.b false, [])) else (bif vbl != wbl then (some (.b false, [])) else (bif vcr != wcr then (some (.b false, [])) else (bif !(eqD (D.agg [D.int .i64 vmd, D.int .i64 vun, D.bool vho]) (D.agg [D.int .i64 wmd, D.int .i64 wun, D.bool who])) then (some (.b false, [])) else (bif eqD (D.agg vdg) (D.agg wdg) then (bif tC vtg && tC wtg then (some (.b (sameT vtg wtg), [])) else none) else (some (.b false, [])))))))) := by kernel_rfl
def W12 : Handle := runS [⟨26, dat (spDD 52 52 (fun a b => vC a && vC b) fun a b => .b (sameVD a b))⟩]
theorem w12 (lab : Lab) (a : List D) (l : List D) : evF (Γ mx) W12 lab 12 [.sl 54 .any a, .sl 54 .any l] [] =
  bif ((a.length : Int)) != ((l.length : Int)) then (some (.b false, [])) else (lab (todoAt (Γ mx) 12 4) ⟨[(0, .sl 54 .any a), (1, .sl 54 .any l), (5, .i .i64 0)], []⟩) := by kernel_rfl
theorem w12_4a (lab : Lab) (l1 : List D) (l2 : List D) (n3 : Int) : evL (Γ mx) W12 lab 12 4 ⟨[(0, .sl 54 .any l1), (1, .sl 54 .any l2), (5, .i .i64 n3)], []⟩ =
  bif decide (n3 < ((l1.length : Int))) then (idx l1 n3 fun y4 => dAgg y4 fun y5 => lGet y5 0 fun y6 => dStr y6 fun s7 => idx l2 n3 fun y8 => dAgg y8 fun y9 => lGet y9 0 fun y10 => dStr y10 fun s11 => bif !(s7 == s11) then (some (.b false, [])) else (idx l1 n3 fun y12 => dAgg y12 fun y13 => lGet y13 1 fun y14 => dBool y14 fun b15 => idx l2 n3 fun y16 => dAgg y16 fun y17 => lGet y17 1 fun y18 => dBool y18 fun b19 => bif !(b15 == b19) then (some (.b false, [])) else (idx l1 n3 fun y20 => dAgg y20 fun y21 => lGet y21 3 fun y22 => dBool y22 fun b23 => idx l2 n3 fun y24 => dAgg y24 fun y25 => lGet y25 3 fun y26 => dBool y26 fun b27 => bif !(b23 == b27) then (some (.b false, [])) else (idx l1 n3 fun y28 => dAgg y28 fun y29 => lGet y29 2 fun y30 => dAgg y30 fun y31 => lCons y31 fun a32 r33 => dInt .u64 a32 fun n34 => lCons r33 fun a35 r36 => dBool a35 fun b37 => lCons r36 fun a38 r39 => dInt .i64 a38 fun n40 => lCons r39 fun a41 r42 => dInt .u64 a41 fun n43 => lCons r42 fun a44 r45 => dAgg a44 fun y46 => lCons r45 fun a47 r48 => dInt .i64 a47 fun n49 => lCons r48 fun a50 r51 => dAgg a50 fun y52 => lCons y52 fun a53 r54 => dInt .i64 a53 fun n55 => lCons r54 fun a56 r57 => dInt .i64 a56 fun n58 => lCons r57 fun a59 r60 => dBool a59 fun b61 => lNil r60 (lCons r51 fun a62 r63 => dSlice a62 fun c64 l65 => lNil r63 (idx l2 n3 fun y66 => dAgg y66 fun y67 => lGet y67 2 fun y68 => dAgg y68 fun y69 => lCons y69 fun a70 r71 => dInt .u64 a70 fun n72 => lCons r71 fun a73 r74 => dBool a73 fun b75 => lCons r74 fun a76 r77 => dInt .i64 a76 fun n78 => lCons r77 fun a79 r80 => dInt .u64 a79 fun n81 => lCons r80 fun a82 r83 => dAgg a82 fun y84 => lCons r83 fun a85 r86 => dInt .i64 a85 fun n87 => lCons r86 fun a88 r89 => dAgg a88 fun y90 => lCons y90 fun a91 r92 => dInt .i64 a91 fun n93 => lCons r92 fun a94 r95 => dInt .i64 a94 fun n96 => lCons r95 fun a97 r98 => dBool a97 fun b99 => lNil r98 (lCons r89 fun a100 r101 => dSlice a100 fun c102 l103 => lNil r101 (bif vC (D.agg [D.int .u64 n34, D.bool b37, D.int .i64 n40, D.int .u64 n43, D.agg y46, D.int .i64 n49, D.agg [D.int .i64 n55, D.int .i64 n58, D.bool b61], D.slice c64 l65]) && vC (D.agg [D.int .u64 n72, D.bool b75, D.int .i64 n78, D.int .u64 n81, D.agg y84, D.int .i64 n87, D.agg [D.int .i64 n93, D.int .i64 n96, D.bool b99], D.slice c102 l103]) then (bif !(sameVD (D.agg [D.int .u64 n34, D.bool b37, D.int .i64 n40, D.int .u64 n43, D.agg y46, D.int .i64 n49, D.agg [D.int .i64 n55, D.int .i64 n58, D.bool b61], D.slice c64 l65]) (D.agg [D.int .u64 n72, D.bool b75, D.int .i64 n78, D.int .u64 n81, D.agg y84, D.int .i64 n87, D.agg [D.int .i64 n93, D.int .i64 n96, D.bool b99], D.slice c102 l103])) then (some (.b false, [])) else (lab (todoAt (Γ mx) 12 4) ⟨[(0, .sl 54 .any l1), (1, .sl 54 .any l2), (5, .i .i64 (IntKind.wrap .i64 (n3 + 1)))], []⟩)) else none)))))))) else (some (.b true, [])) := by kernel_rfl
theorem w25 (lab : Lab) (l : List D) (n : Int) : evF (Γ mx) (runS []) lab 25 [.sl 54 .any l, .i .i64 n] [] =
  bif decide (((l.length : Int)) > n) then (bif decide ((0:Int) ≤ n) && decide (n ≤ (l.length : Int)) then (some (.tuple [.sl 54 .any (List.take ((Int.toNat n) - 0) (List.drop 0 l)), .b true], [])) else none) else (some (.tuple [.sl 54 .any l, .b false], [])) := by kernel_rfl
noncomputable def W8 (mx : Int) : Handle := runS [⟨18, dat (spD1 24 stC fun s => .b (sndB mx s))⟩]
theorem w8 (lab : Lab) (sm : Int) (sn : Int) (sb : Int) (sc : Cp) (sl : List D) : evF (Γ mx) (W8 mx) lab 8 [.d 24 (D.agg [D.int .i64 sm, D.int .u64 sn, D.int .u64 sb, D.slice sc sl])] [] =
  bif stC (D.agg [D.int .i64 sm, D.int .u64 sn, D.int .u64 sb, D.slice sc sl]) then (bif !(sndB mx (D.agg [D.int .i64 sm, D.int .u64 sn, D.int .u64 sb, D.slice sc sl])) then (some (.tuple [.d 32 (D.agg [D.str ([] : List UInt8), D.agg [D.int .i64 0, D.int .i64 0], D.slice .nl [], D.slice .nl [], D.slice .nl [], D.slice .nl []]), .b false], [])) else (bif ((sl.length : Int)) == 0 then (some (.tuple [.d 32 (D.agg [D.str ([] : List UInt8), D.agg [D.int .i64 0, D.int .i64 0], D.slice .nl [], D.slice .nl [], D.slice .nl [], D.slice .nl []]), .b false], [])) else (idx sl 0 fun y1 => dAgg y1 fun y2 => lCons y2 fun a3 r4 => dStr a3 fun s5 => lCons r4 fun a6 r7 => dAgg a6 fun y8 => lCons y8 fun a9 r10 => dInt .i64 a9 fun n11 => lCons r10 fun a12 r13 => dInt .i64 a12 fun n14 => lNil r13 (lCons r7 fun a15 r16 => dSlice a15 fun c17 l18 => lCons r16 fun a19 r20 => dSlice a19 fun c21 l22 => lCons r20 fun a23 r24 => dSlice a23 fun c25 l26 => lCons r24 fun a27 r28 => dSlice a27 fun c29 l30 => lNil r28 (some (.tuple [.d 32 (D.agg [D.str s5, D.agg [D.int .i64 n11, D.int .i64 n14], D.slice c17 l18, D.slice c21 l22, D.slice c25 l26, D.slice c29 l30]), .b true], [])))))) else none := by kernel_rfl
end Go.Proofs.Ytapaenfafjmljaa.V

/- Lists: contracts of the small functions: a row, a page, rows held against rows, the first bucket. -/
namespace Go.Proofs.Ytapaenfafjmljaa.V
open Go
set_option maxRecDepth 100000
set_option linter.unusedVariables false
set_option linter.unusedSimpArgs false
variable {mx : Int}
/-! ### some number of rounds comes to this -/
section
variable {r : AV × Objs} {Γ : Ctx} {H : Handle} {f : FuncId} {key : Nat} {st : St}
def EXR (r : AV × Objs) (R : Nat → Option (AV × Objs)) : Prop := ∃ n, R n = some r
theorem Goes.er (h : EXR r fun n => evL Γ H (L Γ H f n) f key st) : Goes Γ H f key st r := Goes.step h
theorem er_of {R R' : Nat → Option (AV × Objs)} (h : ∀ n, R n = R' n) (h' : EXR r R') : EXR r R := by
  obtain ⟨n, h1⟩ := h'
  exact ⟨n, (h n).trans h1⟩
theorem er_lab (h : Goes Γ H f key st r) : EXR r fun n => L Γ H f n (todoAt Γ f key) st := h
theorem er_some : EXR r fun _ => some r := ⟨0, rfl⟩
theorem er_is {r' : AV × Objs} (h : r' = r) : EXR r fun _ => some r' := ⟨0, by rw [h]⟩
theorem er_t {c : Bool} {X Y : Nat → Option (AV × Objs)} (hc : c = true) (h : EXR r X) : EXR r fun n => bif c then X n else Y n := by subst hc; exact h
theorem er_f {c : Bool} {X Y : Nat → Option (AV × Objs)} (hc : c = false) (h : EXR r Y) : EXR r fun n => bif c then X n else Y n := by subst hc; exact h
theorem er_if {c : Bool} {X Y : Nat → Option (AV × Objs)} (h1 : c = true → EXR r X) (h2 : c = false → EXR r Y) : EXR r fun n => bif c then X n else Y n := by
  cases c with
  | true => exact h1 rfl
  | false => exact h2 rfl
theorem er_idx {α : Type} {l : List α} {i : Int} {y : α} {K : Nat → α → Option (AV × Objs)} (h0 : 0 ≤ i) (h : l[i.toNat]? = some y) (h' : EXR r fun n => K n y) : EXR r fun n => idx l i (K n) := by
  obtain ⟨n, h1⟩ := h'
  refine ⟨n, ?_⟩
  show idx l i (K n) = _
  unfold idx lGet
  rw [decide_eq_true h0, cond_true, h]
  exact h1
theorem er_get {α : Type} {l : List α} {i : Nat} {y : α} {K : Nat → α → Option (AV × Objs)} (h : l[i]? = some y) (h' : EXR r fun n => K n y) : EXR r fun n => lGet l i (K n) := by
  obtain ⟨n, h1⟩ := h'
  refine ⟨n, ?_⟩
  show lGet l i (K n) = _
  unfold lGet
  rw [h]
  exact h1
theorem er_agg {ys : List D} {K : Nat → List D → Option (AV × Objs)} (h : EXR r fun n => K n ys) : EXR r fun n => dAgg (.agg ys) (K n) := h
theorem er_lc {α : Type} {x : α} {q : List α} {K : Nat → α → List α → Option (AV × Objs)} (h : EXR r fun n => K n x q) : EXR r fun n => lCons (x :: q) (K n) := h
theorem er_ln {α : Type} {K : Nat → Option (AV × Objs)} (h : EXR r fun n => K n) : EXR r fun n => lNil ([] : List α) (K n) := h
theorem er_i {x : Int} {K : Nat → Int → Option (AV × Objs)} (h : EXR r fun n => K n x) : EXR r fun n => dInt .i64 (.int .i64 x) (K n) := h
theorem er_u {x : Int} {K : Nat → Int → Option (AV × Objs)} (h : EXR r fun n => K n x) : EXR r fun n => dInt .u64 (.int .u64 x) (K n) := h
theorem er_s {x : List UInt8} {K : Nat → List UInt8 → Option (AV × Objs)} (h : EXR r fun n => K n x) : EXR r fun n => dStr (.str x) (K n) := h
theorem er_b {x : Bool} {K : Nat → Bool → Option (AV × Objs)} (h : EXR r fun n => K n x) : EXR r fun n => dBool (.bool x) (K n) := h
theorem er_sl {c : Cp} {x : List D} {K : Nat → Cp → List D → Option (AV × Objs)} (h : EXR r fun n => K n c x) : EXR r fun n => dSlice (.slice c x) (K n) := h
/-- three conditions lead away; otherwise on -/
theorem er3s {A B C : Bool} {S T : Nat → Option (AV × Objs)} (h : (A && (B && C)) = true) (hS : EXR r S) : EXR r fun n => bif A then (bif B then (bif C then S n else T n) else T n) else T n := by
  cases A <;> cases B <;> cases C <;> first | exact hS | exact absurd h (by simp)
theorem er3t {A B C : Bool} {S T : Nat → Option (AV × Objs)} (h : (A && (B && C)) = false) (hT : EXR r T) : EXR r fun n => bif A then (bif B then (bif C then S n else T n) else T n) else T n := by
  cases A <;> cases B <;> cases C <;> first | exact hT | exact absurd h (by simp)
theorem er4t {A B C E : Bool} {S T : Nat → Option (AV × Objs)} (h : (A || (B || (C && E))) = true) (hT : EXR r T) : EXR r fun n => bif A then T n else (bif B then T n else (bif C then (bif E then T n else S n) else S n)) := by
  cases A <;> cases B <;> cases C <;> cases E <;> first | exact hT | exact absurd h (by simp)
theorem er4s {A B C E : Bool} {S T : Nat → Option (AV × Objs)} (h : (A || (B || (C && E))) = false) (hS : EXR r S) : EXR r fun n => bif A then T n else (bif B then T n else (bif C then (bif E then T n else S n) else S n)) := by
  cases A <;> cases B <;> cases C <;> cases E <;> first | exact hS | exact absurd h (by simp)
end
/-! ### a row, a page -/
theorem W20_ok : CallsOK (Γ mx) W20 := specs_ok (.cons (spD1_ok c127) .nil)
theorem spRow_ok : SpecOK (Γ mx) ⟨20, dat spRow⟩ := dat_ok fun args r hr => by
  unfold spRow at hr
  split at hr
  · rename_i k v l
    simp only [Option.some.injEq, Prod.mk.injEq] at hr
    obtain ⟨h1, rfl⟩ := hr
    obtain ⟨w, rfl, _⟩ := vC_ex h1
    refine ret_goes (Γ := Γ mx) hP hZ W20_ok (by kernel_rfl) ⟨0, ?_⟩
    refine (w20 _ k w.id w.mr w.sz w.bl w.dg w.cr w.md w.un w.ho w.c w.tg l).trans ?_
    rw [show vC (D.agg [D.int .u64 w.id, D.bool w.mr, D.int .i64 w.sz, D.int .u64 w.bl, D.agg w.dg, D.int .i64 w.cr, D.agg [D.int .i64 w.md, D.int .i64 w.un, D.bool w.ho], D.slice w.c w.tg]) = true from h1]
    rfl
  · exact absurd hr (by simp)
theorem spPg_ok : SpecOK (Γ mx) ⟨25, dat spPg⟩ := dat_ok fun args r hr => by
  unfold spPg at hr
  split at hr
  · rename_i c l n
    simp only [Option.some.injEq, Prod.mk.injEq] at hr
    obtain ⟨h1, rfl⟩ := hr
    have h1 : 0 ≤ n := of_decide_eq_true h1
    refine RetX.anyc ?_
    refine ret_goes (Γ := Γ mx) hP hZ none_ok (by kernel_rfl) ⟨0, ?_⟩
    rw [w25]
    by_cases h : (l.length : Int) > n
    · rw [decide_eq_true h, decide_eq_true h1, decide_eq_true (show n ≤ (l.length : Int) by omega)]
      rfl
    · rw [decide_eq_false h, show List.take n.toNat l = l from List.take_of_length_le (by omega)]
      rfl
  · exact absurd hr (by simp)
theorem xAdd_ok : SpecOK (Γ mx) ⟨22, xAdd⟩ := by
  intro args obs r obs' hr
  change xAdd args obs = some (true, r, obs') at hr
  unfold xAdd at hr
  split at hr
  · rename_i fs m b
    simp only [Option.some.injEq, Prod.mk.injEq] at hr
    obtain ⟨h1, rfl, rfl⟩ := hr
    refine ret_goes (Γ := Γ mx) hP hZ none_ok (by kernel_rfl) ⟨0, ?_⟩
    rw [nw22, show ((0 : Int) == m) = false by simpa using h1]
    rfl
  · rename_i fs m b l
    simp only [Option.some.injEq, Prod.mk.injEq] at hr
    obtain ⟨h1, rfl, rfl⟩ := hr
    refine ret_goes (Γ := Γ mx) hP hZ none_ok (by kernel_rfl) ⟨0, ?_⟩
    rw [aw22, h1]
    cases hc : ((List.length l : Int) == m) with
    | true => rw [Bool.or_true]; rfl
    | false => rw [Bool.or_false]; rfl
  · exact absurd hr (by simp)
/-! ### sameness -/
theorem rowsS_lenD : ∀ {a b : List D}, a.length ≠ b.length → rowsS a b = false
  | [], [], h => absurd rfl h
  | [], _ :: _, _ => rfl
  | _ :: _, [], _ => rfl
  | x :: a, y :: b, h => by
    rw [rowsS, rowsS_lenD (a := a) (b := b) (fun e => h (by simp [e])), Bool.and_false]
theorem W26_ok : CallsOK (Γ mx) W26 := specs_ok (.cons (spLL_ok c25) .nil)
theorem c26' (d e : D) (h : (vC d && vC e) = true) : RetX (Γ mx) 26 [.d 52 d, .d 52 e] [] (.b (sameVD d e)) [] := by
  simp only [Bool.and_eq_true] at h
  obtain ⟨v, rfl, h1⟩ := vC_ex h.1
  obtain ⟨w, rfl, h2⟩ := vC_ex h.2
  refine ret_goes (Γ := Γ mx) hP hZ W26_ok (by kernel_rfl) ⟨0, ?_⟩
  refine (w26 _ v.id v.mr v.sz v.bl v.dg v.cr v.md v.un v.ho v.c v.tg w.id w.mr w.sz w.bl w.dg w.cr w.md w.un w.ho w.c w.tg).trans ?_
  rw [h1, h2]
  show _ = some (AV.b (v.id == w.id && (v.mr == w.mr && (v.sz == w.sz && (v.bl == w.bl && (v.cr == w.cr && (eqD (lkV v) (lkV w) && (eqD (.agg v.dg) (.agg w.dg) && sameT v.tg w.tg))))))), [])
  rw [bne, bne, bne, bne]
  show _ = some (AV.b (v.id == w.id && (v.mr == w.mr && (v.sz == w.sz && (v.bl == w.bl && (v.cr == w.cr && (eqD (D.agg [D.int .i64 v.md, D.int .i64 v.un, D.bool v.ho]) (D.agg [D.int .i64 w.md, D.int .i64 w.un, D.bool w.ho]) && (eqD (.agg v.dg) (.agg w.dg) && sameT v.tg w.tg))))))), [])
  cases v.id == w.id <;> cases v.mr == w.mr <;> cases v.sz == w.sz <;> cases v.bl == w.bl <;> cases v.cr == w.cr <;> first | rfl | skip
  cases eqD (D.agg [D.int .i64 v.md, D.int .i64 v.un, D.bool v.ho]) (D.agg [D.int .i64 w.md, D.int .i64 w.un, D.bool w.ho]) <;> cases eqD (.agg v.dg) (.agg w.dg) <;> rfl
theorem W12_ok : CallsOK (Γ mx) W12 := specs_ok (.cons (spDD_ok c26') .nil)
theorem rw1_ex {d : D} (h : rw1 d = true) : ∃ k g v l, d = .agg [.str k, .bool g, vD v, .bool l] ∧ vC (vD v) = true := by
  unfold rw1 at h
  split at h
  · obtain ⟨v, rfl, _⟩ := vC_ex h; exact ⟨_, _, _, _, rfl, h⟩
  · exact absurd h (by simp)
theorem g12 (A B : List D) (hA : A.all rw1 = true) (hB : B.all rw1 = true) (hl : A.length = B.length) (hs : A.length ≤ 8388608) : ∀ (a b pa pb : List D) (i : Int), A = pa ++ a → B = pb ++ b → pa.length = pb.length → i = (pa.length : Int) →
    Goes (Γ mx) W12 12 4 ⟨[(0, .sl 54 .any A), (1, .sl 54 .any B), (5, .i .i64 i)], []⟩ (.b (rowsS a b), [])
  | [], b, pa, pb, i, ha, hb, hp, hi => by
    subst hi
    have hb0 : b = [] := by
      have h1 := congrArg List.length ha
      have h2 := congrArg List.length hb
      simp at h1 h2
      exact List.length_eq_zero_iff.1 (by omega)
    subst hb0
    refine Goes.er (er_of (fun n => w12_4a _ A B _) (er_f (decide_eq_false ?_) er_some))
    rw [ha]; simp
  | x :: a, b, pa, pb, i, ha, hb, hp, hi => by
    subst hi
    cases b with
    | nil =>
      exfalso
      have h1 := congrArg List.length ha
      have h2 := congrArg List.length hb
      simp at h1 h2
      omega
    | cons y b =>
      have hlen : A.length = pa.length + (a.length + 1) := by rw [ha]; simp
      have h1 : A[((pa.length : Nat) : Int).toNat]? = some x := by rw [ha]; exact get_mid pa x a
      have h2 : B[((pa.length : Nat) : Int).toNat]? = some y := by rw [hp, hb]; exact get_mid pb y b
      have w1 : IntKind.wrap .i64 ((pa.length : Int) + 1) = (pa.length : Int) + 1 := wrapI (by omega) (by omega)
      have nx := er_lab (g12 A B hA hB hl hs a b (pa ++ [x]) (pb ++ [y]) ((pa.length : Int) + 1) (by rw [ha]; simp) (by rw [hb]; simp) (by simp [hp]) (by simp))
      obtain ⟨k, g, v, l, rfl, hv⟩ := rw1_ex (List.all_eq_true.1 hA x (by rw [ha]; simp))
      obtain ⟨k', g', v', l', rfl, hv'⟩ := rw1_ex (List.all_eq_true.1 hB y (by rw [hb]; simp))
      have hR : rowsS (D.agg [.str k, .bool g, vD v, .bool l] :: a) (D.agg [.str k', .bool g', vD v', .bool l'] :: b) = (((k == k') && ((g == g') && ((l == l') && sameVD (vD v) (vD v')))) && rowsS a b) := rfl
      rw [hR]
      refine Goes.er (er_of (fun n => w12_4a _ A B _) ?_)
      rw [w1]
      refine er_t (decide_eq_true (by omega)) ?_
      refine er_idx (by omega) h1 (er_agg (er_get rfl (er_s (er_idx (by omega) h2 (er_agg (er_get rfl (er_s ?_)))))))
      refine er_if (fun hk => ?_) (fun hk => ?_)
      · rw [show (k == k') = false by simpa using hk]; exact er_some
      · rw [show (k == k') = true by simpa using hk, Bool.true_and]
        refine er_idx (by omega) h1 (er_agg (er_get rfl (er_b (er_idx (by omega) h2 (er_agg (er_get rfl (er_b ?_)))))))
        refine er_if (fun hg => ?_) (fun hg => ?_)
        · rw [show (g == g') = false by simpa using hg]; exact er_some
        · rw [show (g == g') = true by simpa using hg, Bool.true_and]
          refine er_idx (by omega) h1 (er_agg (er_get rfl (er_b (er_idx (by omega) h2 (er_agg (er_get rfl (er_b ?_)))))))
          refine er_if (fun hq => ?_) (fun hq => ?_)
          · rw [show (l == l') = false by simpa using hq]; exact er_some
          · rw [show (l == l') = true by simpa using hq, Bool.true_and]
            refine er_idx (by omega) h1 (er_agg (er_get rfl ?_))
            refine er_agg (er_lc (er_u (er_lc (er_b (er_lc (er_i (er_lc (er_u (er_lc (er_agg (er_lc (er_i (er_lc (er_agg (er_lc (er_i (er_lc (er_i (er_lc (er_b (er_ln (er_lc (er_sl (er_ln ?_))))))))))))))))))))))))
            refine er_idx (by omega) h2 (er_agg (er_get rfl ?_))
            refine er_agg (er_lc (er_u (er_lc (er_b (er_lc (er_i (er_lc (er_u (er_lc (er_agg (er_lc (er_i (er_lc (er_agg (er_lc (er_i (er_lc (er_i (er_lc (er_b (er_ln (er_lc (er_sl (er_ln ?_))))))))))))))))))))))))
            refine er_t (by rw [show vC (D.agg [D.int .u64 v.id, D.bool v.mr, D.int .i64 v.sz, D.int .u64 v.bl, D.agg v.dg, D.int .i64 v.cr, D.agg [D.int .i64 v.md, D.int .i64 v.un, D.bool v.ho], D.slice v.c v.tg]) = true from hv, show vC (D.agg [D.int .u64 v'.id, D.bool v'.mr, D.int .i64 v'.sz, D.int .u64 v'.bl, D.agg v'.dg, D.int .i64 v'.cr, D.agg [D.int .i64 v'.md, D.int .i64 v'.un, D.bool v'.ho], D.slice v'.c v'.tg]) = true from hv']; rfl) ?_
            refine er_if (fun hs => ?_) (fun hs => ?_)
            · have hs : (!sameVD (vD v) (vD v')) = true := hs
              rw [show sameVD (vD v) (vD v') = false by simpa using hs]; exact er_some
            · have hs : (!sameVD (vD v) (vD v')) = false := hs
              rw [show sameVD (vD v) (vD v') = true by simpa using hs, Bool.true_and]; exact nx
theorem c12' (a b : List D) (h : (rwC a && rwC b) = true) : RetX (Γ mx) 12 [.sl 54 .any a, .sl 54 .any b] [] (.b (rowsS a b)) [] := by
  unfold rwC at h
  simp only [Bool.and_eq_true, decide_eq_true_eq] at h
  obtain ⟨⟨h1, h2⟩, h3, h4⟩ := h
  by_cases hl : a.length = b.length
  · obtain ⟨n, hn⟩ := g12 (mx := mx) a b h2 h4 hl h1 a b [] [] 0 rfl rfl rfl rfl
    refine ret_goes (Γ := Γ mx) hP hZ W12_ok (by kernel_rfl) ⟨n, ?_⟩
    rw [w12, show ((a.length : Int) != (b.length : Int)) = false by rw [hl]; simp, cond_false]
    exact hn
  · refine ret_goes (Γ := Γ mx) hP hZ W12_ok (by kernel_rfl) ⟨0, ?_⟩
    rw [w12, show ((a.length : Int) != (b.length : Int)) = true by simp; omega, cond_true, rowsS_lenD hl]
/-! ### the first bucket -/
theorem W8_ok : CallsOK (Γ mx) (W8 mx) := specs_ok (.cons (spD1_ok c18') .nil)
theorem c8' (s : D) (h : stC s = true) : RetX (Γ mx) 8 [.d 24 s] [] (.tuple [.d 32 (firD mx s), .b (firB mx s)]) [] := by
  obtain ⟨m, n, b, c, l, rfl, hl⟩ := stC_ex h
  refine ret_goes (Γ := Γ mx) hP hZ W8_ok (by kernel_rfl) ⟨0, ?_⟩
  rw [w8, h, cond_true]
  unfold firD firB
  cases hs : sndB mx (D.agg [D.int .i64 m, D.int .u64 n, D.int .u64 b, D.slice c l]) with
  | false => rfl
  | true =>
    cases l with
    | nil => rfl
    | cons y r =>
      obtain ⟨nm, md, dy, c1, rs, c2, gs, c3, os, c4, us, rfl, _⟩ := bkC_ex (List.all_eq_true.1 hl y (by simp))
      rw [show ((((D.agg [D.str nm, D.agg [D.int .i64 md, D.int .i64 dy], D.slice c1 rs, D.slice c2 gs, D.slice c3 os, D.slice c4 us] :: r).length : Nat) : Int) == 0) = false by simp; omega]
      rfl
end Go.Proofs.Ytapaenfafjmljaa.V

/- Lists: what the machine over values makes of functions (13,): equations, written by program. -/
namespace Go.Proofs.Ytapaenfafjmljaa.V
open Go
set_option maxRecDepth 100000
set_option linter.unusedVariables false
set_option linter.unusedSimpArgs false
variable {mx : Int}
def W13 : Handle := runS [⟨19, dat (sp2 (fun _ _ => true) fun a b => .b (hpB a b))⟩, ⟨20, dat spRow⟩, ⟨22, xAdd⟩]
theorem w13 (lab : Lab) (bn : List UInt8) (bm : Int) (bd : Int) (brc : Cp) (brs : List D) (bgc : Cp) (bgs : List D) (boc : Cp) (bos : List D) (buc : Cp) (bus : List D) (p : List UInt8) (pb : List UInt8) (pk : List UInt8) (pi : Int) (n : Int) : evF (Γ mx) W13 lab 13 [.d 32 (D.agg [D.str bn, D.agg [D.int .i64 bm, D.int .i64 bd], D.slice brc brs, D.slice bgc bgs, D.slice boc bos, D.slice buc bus]), .s p, .d 43 (D.agg [D.str pb, D.str pk, D.int .u64 pi]), .i .i64 n] [] =
  bif decide (n < 1) then (some (.tuple [.snil, .b false, .i .i64 1], [])) else (bif decide (n > 100) then (some (.tuple [.snil, .b false, .i .i64 1], [])) else (lab (todoAt (Γ mx) 13 5) ⟨[(1, .s p), (6, .ptr 0 [] 43), (11, .ptr 1 [] 69), (26, .sl 59 boc bos), (27, .i .i64 ((bos.length : Int))), (28, .i .i64 0)], [some (.box 43 (.d 43 (D.agg [D.str pb, D.str pk, D.int .u64 pi]))), some (.box 69 (.d 69 (D.agg [D.slice .nl [], D.int .i64 n, D.bool false])))]⟩)) := by kernel_rfl
theorem w13_5a (lab : Lab) (s1 : List UInt8) (c2 : Cp) (l3 : List D) (n4 : Int) (n5 : Int) (s6 : List UInt8) (s7 : List UInt8) (n8 : Int) (n9 : Int) (b10 : Bool) : evL (Γ mx) W13 lab 13 5 ⟨[(1, .s s1), (6, .ptr 0 [] 43), (11, .ptr 1 [] 69), (26, .sl 59 c2 l3), (27, .i .i64 n4), (28, .i .i64 n5)], [some (.box 43 (.d 43 (D.agg [D.str s6, D.str s7, D.int .u64 n8]))), some (.box 69 (.d 69 (D.agg [D.slice .nl [], D.int .i64 n9, D.bool b10])))]⟩ =
  bif decide (n5 < n4) then (idx l3 n5 fun y11 => dAgg y11 fun y12 => lCons y12 fun a13 r14 => dStr a13 fun s15 => lCons r14 fun a16 r17 => dSlice a16 fun c18 l19 => lNil r17 (bif !(hpB s15 s1) then (lab (todoAt (Γ mx) 13 5) ⟨[(1, .s s1), (6, .ptr 0 [] 43), (11, .ptr 1 [] 69), (26, .sl 59 c2 l3), (27, .i .i64 n4), (28, .i .i64 (IntKind.wrap .i64 (n5 + 1)))], [some (.box 43 (.d 43 (D.agg [D.str s6, D.str s7, D.int .u64 n8]))), some (.box 69 (.d 69 (D.agg [D.slice .nl [], D.int .i64 n9, D.bool b10])))]⟩) else (bif lessB s15 s7 then (lab (todoAt (Γ mx) 13 5) ⟨[(1, .s s1), (6, .ptr 0 [] 43), (11, .ptr 1 [] 69), (26, .sl 59 c2 l3), (27, .i .i64 n4), (28, .i .i64 (IntKind.wrap .i64 (n5 + 1)))], [some (.box 43 (.d 43 (D.agg [D.str s6, D.str s7, D.int .u64 n8]))), some (.box 69 (.d 69 (D.agg [D.slice .nl [], D.int .i64 n9, D.bool b10])))]⟩) else (lab (todoAt (Γ mx) 13 9) ⟨[(1, .s s1), (6, .ptr 0 [] 43), (11, .ptr 1 [] 69), (13, .ptr 2 [] 59), (14, .i .i64 (IntKind.wrap .i64 (((l19.length : Int)) - 1))), (26, .sl 59 c2 l3), (27, .i .i64 n4), (28, .i .i64 n5)], [some (.box 43 (.d 43 (D.agg [D.str s6, D.str s7, D.int .u64 n8]))), some (.box 69 (.d 69 (D.agg [D.slice .nl [], D.int .i64 n9, D.bool b10]))), some (.box 59 (.d 59 (D.agg [D.str s15, D.slice c18 l19])))]⟩)))) else (some (.tuple [.sl 54 .nl [], .b b10, .i .i64 0], [])) := by kernel_rfl
theorem w13_9a (lab : Lab) (s1 : List UInt8) (n2 : Int) (c3 : Cp) (l4 : List D) (n5 : Int) (n6 : Int) (s7 : List UInt8) (s8 : List UInt8) (n9 : Int) (n10 : Int) (b11 : Bool) (s12 : List UInt8) (c13 : Cp) (l14 : List D) : evL (Γ mx) W13 lab 13 9 ⟨[(1, .s s1), (6, .ptr 0 [] 43), (11, .ptr 1 [] 69), (13, .ptr 2 [] 59), (14, .i .i64 n2), (26, .sl 59 c3 l4), (27, .i .i64 n5), (28, .i .i64 n6)], [some (.box 43 (.d 43 (D.agg [D.str s7, D.str s8, D.int .u64 n9]))), some (.box 69 (.d 69 (D.agg [D.slice .nl [], D.int .i64 n10, D.bool b11]))), some (.box 59 (.d 59 (D.agg [D.str s12, D.slice c13 l14])))]⟩ =
  bif decide (n2 ≥ 0) then (idx l14 n2 fun y15 => dAgg y15 fun y16 => lCons y16 fun a17 r18 => dInt .u64 a17 fun n19 => lCons r18 fun a20 r21 => dBool a20 fun b22 => lCons r21 fun a23 r24 => dInt .i64 a23 fun n25 => lCons r24 fun a26 r27 => dInt .u64 a26 fun n28 => lCons r27 fun a29 r30 => dAgg a29 fun y31 => lCons r30 fun a32 r33 => dInt .i64 a32 fun n34 => lCons r33 fun a35 r36 => dAgg a35 fun y37 => lCons y37 fun a38 r39 => dInt .i64 a38 fun n40 => lCons r39 fun a41 r42 => dInt .i64 a41 fun n43 => lCons r42 fun a44 r45 => dBool a44 fun b46 => lNil r45 (lCons r36 fun a47 r48 => dSlice a47 fun c49 l50 => lNil r48 (bif !(s8 == ([] : List UInt8)) then (bif s12 == s8 then (bif decide (n19 ≥ n9) then (lab (todoAt (Γ mx) 13 9) ⟨[(1, .s s1), (6, .ptr 0 [] 43), (11, .ptr 1 [] 69), (13, .ptr 2 [] 59), (14, .i .i64 (IntKind.wrap .i64 (n2 - 1))), (26, .sl 59 c3 l4), (27, .i .i64 n5), (28, .i .i64 n6)], [some (.box 43 (.d 43 (D.agg [D.str s7, D.str s8, D.int .u64 n9]))), some (.box 69 (.d 69 (D.agg [D.slice .nl [], D.int .i64 n10, D.bool b11]))), some (.box 59 (.d 59 (D.agg [D.str s12, D.slice c13 l14])))]⟩) else (bif vC (D.agg [D.int .u64 n19, D.bool b22, D.int .i64 n25, D.int .u64 n28, D.agg y31, D.int .i64 n34, D.agg [D.int .i64 n40, D.int .i64 n43, D.bool b46], D.slice c49 l50]) then (bif !((0 : Int) == n10) then (lab (todoAt (Γ mx) 13 9) ⟨[(1, .s s1), (6, .ptr 0 [] 43), (11, .ptr 1 [] 69), (13, .ptr 3 [] 59), (14, .i .i64 (IntKind.wrap .i64 (n2 - 1))), (26, .sl 59 c3 l4), (27, .i .i64 n5), (28, .i .i64 n6)], [some (.box 43 (.d 43 (D.agg [D.str s7, D.str s8, D.int .u64 n9]))), some (.box 69 (.agg 69 [.ref 54 2, .i .i64 n10, .b b11])), some (.arr 54 ([D.agg [D.str s12, D.bool false, D.agg [D.int .u64 n19, D.bool b22, D.int .i64 n25, D.int .u64 n28, D.agg y31, D.int .i64 n34, D.agg [D.int .i64 n40, D.int .i64 n43, D.bool b46], D.slice .cl l50], D.bool (n2 == (IntKind.wrap .i64 (((l14.length : Int)) - 1)))]]) false), some (.box 59 (.d 59 (D.agg [D.str s12, D.slice c13 l14])))]⟩) else none) else none)) else (bif vC (D.agg [D.int .u64 n19, D.bool b22, D.int .i64 n25, D.int .u64 n28, D.agg y31, D.int .i64 n34, D.agg [D.int .i64 n40, D.int .i64 n43, D.bool b46], D.slice c49 l50]) then (bif !((0 : Int) == n10) then (lab (todoAt (Γ mx) 13 9) ⟨[(1, .s s1), (6, .ptr 0 [] 43), (11, .ptr 1 [] 69), (13, .ptr 3 [] 59), (14, .i .i64 (IntKind.wrap .i64 (n2 - 1))), (26, .sl 59 c3 l4), (27, .i .i64 n5), (28, .i .i64 n6)], [some (.box 43 (.d 43 (D.agg [D.str s7, D.str s8, D.int .u64 n9]))), some (.box 69 (.agg 69 [.ref 54 2, .i .i64 n10, .b b11])), some (.arr 54 ([D.agg [D.str s12, D.bool false, D.agg [D.int .u64 n19, D.bool b22, D.int .i64 n25, D.int .u64 n28, D.agg y31, D.int .i64 n34, D.agg [D.int .i64 n40, D.int .i64 n43, D.bool b46], D.slice .cl l50], D.bool (n2 == (IntKind.wrap .i64 (((l14.length : Int)) - 1)))]]) false), some (.box 59 (.d 59 (D.agg [D.str s12, D.slice c13 l14])))]⟩) else none) else none)) else (bif vC (D.agg [D.int .u64 n19, D.bool b22, D.int .i64 n25, D.int .u64 n28, D.agg y31, D.int .i64 n34, D.agg [D.int .i64 n40, D.int .i64 n43, D.bool b46], D.slice c49 l50]) then (bif !((0 : Int) == n10) then (lab (todoAt (Γ mx) 13 9) ⟨[(1, .s s1), (6, .ptr 0 [] 43), (11, .ptr 1 [] 69), (13, .ptr 3 [] 59), (14, .i .i64 (IntKind.wrap .i64 (n2 - 1))), (26, .sl 59 c3 l4), (27, .i .i64 n5), (28, .i .i64 n6)], [some (.box 43 (.d 43 (D.agg [D.str s7, D.str s8, D.int .u64 n9]))), some (.box 69 (.agg 69 [.ref 54 2, .i .i64 n10, .b b11])), some (.arr 54 ([D.agg [D.str s12, D.bool false, D.agg [D.int .u64 n19, D.bool b22, D.int .i64 n25, D.int .u64 n28, D.agg y31, D.int .i64 n34, D.agg [D.int .i64 n40, D.int .i64 n43, D.bool b46], D.slice .cl l50], D.bool (n2 == (IntKind.wrap .i64 (((l14.length : Int)) - 1)))]]) false), some (.box 59 (.d 59 (D.agg [D.str s12, D.slice c13 l14])))]⟩) else none) else none)))) else (lab (todoAt (Γ mx) 13 5) ⟨[(1, .s s1), (6, .ptr 0 [] 43), (11, .ptr 1 [] 69), (26, .sl 59 c3 l4), (27, .i .i64 n5), (28, .i .i64 (IntKind.wrap .i64 (n6 + 1)))], [some (.box 43 (.d 43 (D.agg [D.str s7, D.str s8, D.int .u64 n9]))), some (.box 69 (.d 69 (D.agg [D.slice .nl [], D.int .i64 n10, D.bool b11])))]⟩) := by kernel_rfl
theorem w13_9b (lab : Lab) (s1 : List UInt8) (n2 : Int) (c3 : Cp) (l4 : List D) (n5 : Int) (n6 : Int) (s7 : List UInt8) (s8 : List UInt8) (n9 : Int) (n10 : Int) (b11 : Bool) (l12 : List D) (s13 : List UInt8) (c14 : Cp) (l15 : List D) : evL (Γ mx) W13 lab 13 9 ⟨[(1, .s s1), (6, .ptr 0 [] 43), (11, .ptr 1 [] 69), (13, .ptr 3 [] 59), (14, .i .i64 n2), (26, .sl 59 c3 l4), (27, .i .i64 n5), (28, .i .i64 n6)], [some (.box 43 (.d 43 (D.agg [D.str s7, D.str s8, D.int .u64 n9]))), some (.box 69 (.agg 69 [.ref 54 2, .i .i64 n10, .b b11])), some (.arr 54 l12 false), some (.box 59 (.d 59 (D.agg [D.str s13, D.slice c14 l15])))]⟩ =
  bif decide (n2 ≥ 0) then (idx l15 n2 fun y16 => dAgg y16 fun y17 => lCons y17 fun a18 r19 => dInt .u64 a18 fun n20 => lCons r19 fun a21 r22 => dBool a21 fun b23 => lCons r22 fun a24 r25 => dInt .i64 a24 fun n26 => lCons r25 fun a27 r28 => dInt .u64 a27 fun n29 => lCons r28 fun a30 r31 => dAgg a30 fun y32 => lCons r31 fun a33 r34 => dInt .i64 a33 fun n35 => lCons r34 fun a36 r37 => dAgg a36 fun y38 => lCons y38 fun a39 r40 => dInt .i64 a39 fun n41 => lCons r40 fun a42 r43 => dInt .i64 a42 fun n44 => lCons r43 fun a45 r46 => dBool a45 fun b47 => lNil r46 (lCons r37 fun a48 r49 => dSlice a48 fun c50 l51 => lNil r49 (bif !(s8 == ([] : List UInt8)) then (bif s13 == s8 then (bif decide (n20 ≥ n9) then (lab (todoAt (Γ mx) 13 9) ⟨[(1, .s s1), (6, .ptr 0 [] 43), (11, .ptr 1 [] 69), (13, .ptr 3 [] 59), (14, .i .i64 (IntKind.wrap .i64 (n2 - 1))), (26, .sl 59 c3 l4), (27, .i .i64 n5), (28, .i .i64 n6)], [some (.box 43 (.d 43 (D.agg [D.str s7, D.str s8, D.int .u64 n9]))), some (.box 69 (.agg 69 [.ref 54 2, .i .i64 n10, .b b11])), some (.arr 54 l12 false), some (.box 59 (.d 59 (D.agg [D.str s13, D.slice c14 l15])))]⟩) else (bif vC (D.agg [D.int .u64 n20, D.bool b23, D.int .i64 n26, D.int .u64 n29, D.agg y32, D.int .i64 n35, D.agg [D.int .i64 n41, D.int .i64 n44, D.bool b47], D.slice c50 l51]) then (bif roomB (List.length l12 + 1) 152 then (bif !(!((List.length l12 : Int) == n10)) then (some (.tuple [.sl 54 .any (bif ((List.length l12 : Int) == n10) then l12 else l12 ++ [D.agg [D.str s13, D.bool false, D.agg [D.int .u64 n20, D.bool b23, D.int .i64 n26, D.int .u64 n29, D.agg y32, D.int .i64 n35, D.agg [D.int .i64 n41, D.int .i64 n44, D.bool b47], D.slice .cl l51], D.bool (n2 == (IntKind.wrap .i64 (((l15.length : Int)) - 1)))]]), .b (b11 || ((List.length l12 : Int) == n10)), .i .i64 0], [])) else (lab (todoAt (Γ mx) 13 9) ⟨[(1, .s s1), (6, .ptr 0 [] 43), (11, .ptr 1 [] 69), (13, .ptr 3 [] 59), (14, .i .i64 (IntKind.wrap .i64 (n2 - 1))), (26, .sl 59 c3 l4), (27, .i .i64 n5), (28, .i .i64 n6)], [some (.box 43 (.d 43 (D.agg [D.str s7, D.str s8, D.int .u64 n9]))), some (.box 69 (.agg 69 [.ref 54 2, .i .i64 n10, .b (b11 || ((List.length l12 : Int) == n10))])), some (.arr 54 (bif ((List.length l12 : Int) == n10) then l12 else l12 ++ [D.agg [D.str s13, D.bool false, D.agg [D.int .u64 n20, D.bool b23, D.int .i64 n26, D.int .u64 n29, D.agg y32, D.int .i64 n35, D.agg [D.int .i64 n41, D.int .i64 n44, D.bool b47], D.slice .cl l51], D.bool (n2 == (IntKind.wrap .i64 (((l15.length : Int)) - 1)))]]) false), some (.box 59 (.d 59 (D.agg [D.str s13, D.slice c14 l15])))]⟩)) else none) else none)) else (bif vC (D.agg [D.int .u64 n20, D.bool b23, D.int .i64 n26, D.int .u64 n29, D.agg y32, D.int .i64 n35, D.agg [D.int .i64 n41, D.int .i64 n44, D.bool b47], D.slice c50 l51]) then (bif roomB (List.length l12 + 1) 152 then (bif !(!((List.length l12 : Int) == n10)) then (some (.tuple [.sl 54 .any (bif ((List.length l12 : Int) == n10) then l12 else l12 ++ [D.agg [D.str s13, D.bool false, D.agg [D.int .u64 n20, D.bool b23, D.int .i64 n26, D.int .u64 n29, D.agg y32, D.int .i64 n35, D.agg [D.int .i64 n41, D.int .i64 n44, D.bool b47], D.slice .cl l51], D.bool (n2 == (IntKind.wrap .i64 (((l15.length : Int)) - 1)))]]), .b (b11 || ((List.length l12 : Int) == n10)), .i .i64 0], [])) else (lab (todoAt (Γ mx) 13 9) ⟨[(1, .s s1), (6, .ptr 0 [] 43), (11, .ptr 1 [] 69), (13, .ptr 3 [] 59), (14, .i .i64 (IntKind.wrap .i64 (n2 - 1))), (26, .sl 59 c3 l4), (27, .i .i64 n5), (28, .i .i64 n6)], [some (.box 43 (.d 43 (D.agg [D.str s7, D.str s8, D.int .u64 n9]))), some (.box 69 (.agg 69 [.ref 54 2, .i .i64 n10, .b (b11 || ((List.length l12 : Int) == n10))])), some (.arr 54 (bif ((List.length l12 : Int) == n10) then l12 else l12 ++ [D.agg [D.str s13, D.bool false, D.agg [D.int .u64 n20, D.bool b23, D.int .i64 n26, D.int .u64 n29, D.agg y32, D.int .i64 n35, D.agg [D.int .i64 n41, D.int .i64 n44, D.bool b47], D.slice .cl l51], D.bool (n2 == (IntKind.wrap .i64 (((l15.length : Int)) - 1)))]]) false), some (.box 59 (.d 59 (D.agg [D.str s13, D.slice c14 l15])))]⟩)) else none) else none)) else (bif vC (D.agg [D.int .u64 n20, D.bool b23, D.int .i64 n26, D.int .u64 n29, D.agg y32, D.int .i64 n35, D.agg [D.int .i64 n41, D.int .i64 n44, D.bool b47], D.slice c50 l51]) then (bif roomB (List.length l12 + 1) 152 then (bif !(!((List.length l12 : Int) == n10)) then (some (.tuple [.sl 54 .any (bif ((List.length l12 : Int) == n10) then l12 else l12 ++ [D.agg [D.str s13, D.bool false, D.agg [D.int .u64 n20, D.bool b23, D.int .i64 n26, D.int .u64 n29, D.agg y32, D.int .i64 n35, D.agg [D.int .i64 n41, D.int .i64 n44, D.bool b47], D.slice .cl l51], D.bool (n2 == (IntKind.wrap .i64 (((l15.length : Int)) - 1)))]]), .b (b11 || ((List.length l12 : Int) == n10)), .i .i64 0], [])) else (lab (todoAt (Γ mx) 13 9) ⟨[(1, .s s1), (6, .ptr 0 [] 43), (11, .ptr 1 [] 69), (13, .ptr 3 [] 59), (14, .i .i64 (IntKind.wrap .i64 (n2 - 1))), (26, .sl 59 c3 l4), (27, .i .i64 n5), (28, .i .i64 n6)], [some (.box 43 (.d 43 (D.agg [D.str s7, D.str s8, D.int .u64 n9]))), some (.box 69 (.agg 69 [.ref 54 2, .i .i64 n10, .b (b11 || ((List.length l12 : Int) == n10))])), some (.arr 54 (bif ((List.length l12 : Int) == n10) then l12 else l12 ++ [D.agg [D.str s13, D.bool false, D.agg [D.int .u64 n20, D.bool b23, D.int .i64 n26, D.int .u64 n29, D.agg y32, D.int .i64 n35, D.agg [D.int .i64 n41, D.int .i64 n44, D.bool b47], D.slice .cl l51], D.bool (n2 == (IntKind.wrap .i64 (((l15.length : Int)) - 1)))]]) false), some (.box 59 (.d 59 (D.agg [D.str s13, D.slice c14 l15])))]⟩)) else none) else none)))) else (lab (todoAt (Γ mx) 13 5) ⟨[(1, .s s1), (6, .ptr 0 [] 43), (11, .ptr 1 [] 69), (26, .sl 59 c3 l4), (27, .i .i64 n5), (28, .i .i64 (IntKind.wrap .i64 (n6 + 1)))], [some (.box 43 (.d 43 (D.agg [D.str s7, D.str s8, D.int .u64 n9]))), some (.box 69 (.agg 69 [.ref 54 2, .i .i64 n10, .b b11])), some (.arr 54 l12 false)]⟩) := by kernel_rfl
theorem w13_5b (lab : Lab) (s1 : List UInt8) (c2 : Cp) (l3 : List D) (n4 : Int) (n5 : Int) (s6 : List UInt8) (s7 : List UInt8) (n8 : Int) (n9 : Int) (b10 : Bool) (l11 : List D) : evL (Γ mx) W13 lab 13 5 ⟨[(1, .s s1), (6, .ptr 0 [] 43), (11, .ptr 1 [] 69), (26, .sl 59 c2 l3), (27, .i .i64 n4), (28, .i .i64 n5)], [some (.box 43 (.d 43 (D.agg [D.str s6, D.str s7, D.int .u64 n8]))), some (.box 69 (.agg 69 [.ref 54 2, .i .i64 n9, .b b10])), some (.arr 54 l11 false)]⟩ =
  bif decide (n5 < n4) then (idx l3 n5 fun y12 => dAgg y12 fun y13 => lCons y13 fun a14 r15 => dStr a14 fun s16 => lCons r15 fun a17 r18 => dSlice a17 fun c19 l20 => lNil r18 (bif !(hpB s16 s1) then (lab (todoAt (Γ mx) 13 5) ⟨[(1, .s s1), (6, .ptr 0 [] 43), (11, .ptr 1 [] 69), (26, .sl 59 c2 l3), (27, .i .i64 n4), (28, .i .i64 (IntKind.wrap .i64 (n5 + 1)))], [some (.box 43 (.d 43 (D.agg [D.str s6, D.str s7, D.int .u64 n8]))), some (.box 69 (.agg 69 [.ref 54 2, .i .i64 n9, .b b10])), some (.arr 54 l11 false)]⟩) else (bif lessB s16 s7 then (lab (todoAt (Γ mx) 13 5) ⟨[(1, .s s1), (6, .ptr 0 [] 43), (11, .ptr 1 [] 69), (26, .sl 59 c2 l3), (27, .i .i64 n4), (28, .i .i64 (IntKind.wrap .i64 (n5 + 1)))], [some (.box 43 (.d 43 (D.agg [D.str s6, D.str s7, D.int .u64 n8]))), some (.box 69 (.agg 69 [.ref 54 2, .i .i64 n9, .b b10])), some (.arr 54 l11 false)]⟩) else (lab (todoAt (Γ mx) 13 9) ⟨[(1, .s s1), (6, .ptr 0 [] 43), (11, .ptr 1 [] 69), (13, .ptr 3 [] 59), (14, .i .i64 (IntKind.wrap .i64 (((l20.length : Int)) - 1))), (26, .sl 59 c2 l3), (27, .i .i64 n4), (28, .i .i64 n5)], [some (.box 43 (.d 43 (D.agg [D.str s6, D.str s7, D.int .u64 n8]))), some (.box 69 (.agg 69 [.ref 54 2, .i .i64 n9, .b b10])), some (.arr 54 l11 false), some (.box 59 (.d 59 (D.agg [D.str s16, D.slice c19 l20])))]⟩)))) else (some (.tuple [.sl 54 .any l11, .b b10, .i .i64 0], [])) := by kernel_rfl
end Go.Proofs.Ytapaenfafjmljaa.V

/- Lists: list.Versions: its contract. -/
namespace Go.Proofs.Ytapaenfafjmljaa.V
open Go
set_option maxRecDepth 100000
set_option linter.unusedVariables false
set_option linter.unusedSimpArgs false
variable {mx : Int}
/-! ### an object's rows, from some version down -/
def rowsAt (k : Tx) (vl : List Ver) : Nat → List (Vr Ver)
  | 0 => []
  | m + 1 => match vl[m]? with
    | some v => (k, v, decide (m + 1 = vl.length)) :: rowsAt k vl m
    | none => rowsAt k vl m
theorem rowsAt_eq (k : Tx) (vl : List Ver) : ∀ m, m ≤ vl.length → rowsAt k vl m = if m = vl.length then revRows k vl else (vl.take m).reverse.map fun x => (k, x, false)
  | 0, h => by
    by_cases h0 : 0 = vl.length
    · rw [if_pos h0, List.length_eq_zero_iff.1 h0.symm]; rfl
    · rw [if_neg h0]; rfl
  | m + 1, h => by
    have hm : m < vl.length := by omega
    have ih := rowsAt_eq k vl m (by omega)
    rw [if_neg (by omega)] at ih
    rw [rowsAt, List.getElem?_eq_getElem hm]
    simp only
    rw [ih]
    have ht : (vl.take (m + 1)).reverse = vl[m] :: (vl.take m).reverse := by
      rw [← List.take_append_getElem hm, List.reverse_append]; rfl
    by_cases hl : m + 1 = vl.length
    · rw [if_pos hl, decide_eq_true hl]
      unfold revRows
      have : vl.reverse = vl[m] :: (vl.take m).reverse := by rw [← ht, hl, List.take_length]
      rw [this]
    · rw [if_neg hl, decide_eq_false hl, ht]; rfl
theorem rowsAt_all (k : Tx) (vl : List Ver) : rowsAt k vl vl.length = revRows k vl := by rw [rowsAt_eq k vl _ (Nat.le_refl _), if_pos rfl]
/-! ### states -/
def v5S (p sb sk : Tx) (si : Int) (c : Cp) (os : List D) (n i : Int) : List D → St
  | [] => ⟨[(1, .s p), (6, .ptr 0 [] 43), (11, .ptr 1 [] 69), (26, .sl 59 c os), (27, .i .i64 ((os.length : Int))), (28, .i .i64 i)], [some (.box 43 (.d 43 (D.agg [D.str sb, D.str sk, D.int .u64 si]))), some (.box 69 (.d 69 (D.agg [D.slice .nl [], D.int .i64 n, D.bool false])))]⟩
  | x :: l => ⟨[(1, .s p), (6, .ptr 0 [] 43), (11, .ptr 1 [] 69), (26, .sl 59 c os), (27, .i .i64 ((os.length : Int))), (28, .i .i64 i)], [some (.box 43 (.d 43 (D.agg [D.str sb, D.str sk, D.int .u64 si]))), some (.box 69 (.agg 69 [.ref 54 2, .i .i64 n, .b false])), some (.arr 54 (x :: l) false)]⟩
def v9S (p sb sk : Tx) (si : Int) (c : Cp) (os : List D) (n i : Int) (ok : Tx) (oc : Cp) (vs : List D) (j : Int) : List D → St
  | [] => ⟨[(1, .s p), (6, .ptr 0 [] 43), (11, .ptr 1 [] 69), (13, .ptr 2 [] 59), (14, .i .i64 j), (26, .sl 59 c os), (27, .i .i64 ((os.length : Int))), (28, .i .i64 i)], [some (.box 43 (.d 43 (D.agg [D.str sb, D.str sk, D.int .u64 si]))), some (.box 69 (.d 69 (D.agg [D.slice .nl [], D.int .i64 n, D.bool false]))), some (.box 59 (.d 59 (D.agg [D.str ok, D.slice oc vs])))]⟩
  | x :: l => ⟨[(1, .s p), (6, .ptr 0 [] 43), (11, .ptr 1 [] 69), (13, .ptr 3 [] 59), (14, .i .i64 j), (26, .sl 59 c os), (27, .i .i64 ((os.length : Int))), (28, .i .i64 i)], [some (.box 43 (.d 43 (D.agg [D.str sb, D.str sk, D.int .u64 si]))), some (.box 69 (.agg 69 [.ref 54 2, .i .i64 n, .b false])), some (.arr 54 (x :: l) false), some (.box 59 (.d 59 (D.agg [D.str ok, D.slice oc vs])))]⟩
def resV : List D × Bool → AV × Objs
  | ([], m) => (.tuple [.sl 54 .nl [], .b m, .i .i64 0], [])
  | (x :: l, m) => (.tuple [.sl 54 .any (x :: l), .b m, .i .i64 0], [])
theorem room152 {n : Nat} (h : n ≤ 10000000) : roomB n 152 = true := by
  unfold roomB
  simp only [Bool.and_eq_true, decide_eq_true_eq]
  exact ⟨rfl, by omega⟩
theorem skip_eq {ok sk : Tx} (h : lessB ok sk = false) (si id : Int) : (!(sk == []) && (ok == sk && decide (id ≥ si))) = !keepR sk si ok id := by
  rw [← keep_eq]
  unfold keepP
  rw [h]
  simp
/-- rows are added: by what they are -/
theorem addAll_full {α : Type} {n : Nat} {L R : List α} {r : α} (h : L.length = n) : addAll n L (r :: R) = (L, true) := by rw [addAll, if_pos h]
theorem addAll_room {α : Type} {n : Nat} {L R : List α} {r : α} (h : L.length ≠ n) : addAll n L (r :: R) = addAll n (L ++ [r]) R := by rw [addAll, if_neg h]
theorem W13_ok : CallsOK (Γ mx) W13 := specs_ok (.cons (sp2_ok c95) (.cons spRow_ok (.cons xAdd_ok .nil)))
theorem g13_9 {p sb sk : Tx} {si : Int} {c : Cp} {os : List D} {n i : Int} {ok : Tx} {oc : Cp} {vl : List Ver} {R : List D} (hn : 1 ≤ n) (hn2 : n ≤ 100) (hi : 0 ≤ i) (hi2 : i ≤ 8388608) (hvl : vl.length ≤ 8388608) (hva : (vl.map vD).all vC = true) (hlt : lessB ok sk = false)
    (hc : ∀ L : List D, L.length ≤ n.toNat → Goes (Γ mx) W13 13 5 (v5S p sb sk si c os n (i + 1) L) (resV (addAll n.toNat L R))) :
    ∀ (m : Nat) (j : Int) (L : List D), m ≤ vl.length → j = (m : Int) - 1 → L.length ≤ n.toNat →
    Goes (Γ mx) W13 13 9 (v9S p sb sk si c os n i ok oc (vl.map vD) j L) (resV (addAll n.toNat L (((rowsAt ok vl m).filter fun r => keepR sk si r.1 r.2.1.id).map rowVP ++ R)))
  | 0, j, L, hm, hj, hL => by
    subst hj
    have w1 : IntKind.wrap .i64 (i + 1) = i + 1 := wrapI (by omega) (by omega)
    cases L with
    | nil =>
      refine Goes.er (er_of (fun k => w13_9a _ p _ c os _ i sb sk si n false ok oc (vl.map vD)) ?_)
      rw [w1]
      exact er_f (decide_eq_false (by omega)) (er_lab (hc [] hL))
    | cons x l =>
      refine Goes.er (er_of (fun k => w13_9b _ p _ c os _ i sb sk si n false (x :: l) ok oc (vl.map vD)) ?_)
      rw [w1]
      exact er_f (decide_eq_false (by omega)) (er_lab (hc (x :: l) hL))
  | m + 1, j, L, hm, hj, hL => by
    have hj' : j = (m : Int) := by omega
    subst hj'
    have hlt' : m < vl.length := by omega
    have hg : (vl.map vD)[((m : Nat) : Int).toNat]? = some (vD vl[m]) := by rw [Int.toNat_natCast, List.getElem?_map, List.getElem?_eq_getElem hlt']; rfl
    have hvC : vC (vD vl[m]) = true := List.all_eq_true.1 hva _ (List.mem_map.2 ⟨vl[m], List.getElem_mem hlt', rfl⟩)
    have w1 : IntKind.wrap .i64 ((m : Int) - 1) = (m : Int) - 1 := wrapI (by omega) (by omega)
    have w2 : IntKind.wrap .i64 (((vl.map vD).length : Int) - 1) = (vl.length : Int) - 1 := by rw [List.length_map]; exact wrapI (by omega) (by omega)
    have hfl : ((m : Int) == (vl.length : Int) - 1) = decide (m + 1 = vl.length) := by
      by_cases h : m + 1 = vl.length
      · rw [decide_eq_true h]; simp; omega
      · rw [decide_eq_false h]; simp; omega
    have hra : rowsAt ok vl (m + 1) = (ok, vl[m], decide (m + 1 = vl.length)) :: rowsAt ok vl m := by rw [rowsAt, List.getElem?_eq_getElem hlt']
    have nx := fun L' hL' => g13_9 (oc := oc) hn hn2 hi hi2 hvl hva hlt hc m ((m : Int) - 1) L' (by omega) rfl hL'
    have hsk := skip_eq hlt si vl[m].id
    cases L with
    | nil =>
      refine Goes.er (er_of (fun k => w13_9a _ p _ c os _ i sb sk si n false ok oc (vl.map vD)) ?_)
      rw [w1, w2, hfl]
      refine er_t (decide_eq_true (by omega)) (er_idx (by omega) hg ?_)
      refine er_agg (er_lc (er_u (er_lc (er_b (er_lc (er_i (er_lc (er_u (er_lc (er_agg (er_lc (er_i (er_lc (er_agg (er_lc (er_i (er_lc (er_i (er_lc (er_b (er_ln (er_lc (er_sl (er_ln ?_))))))))))))))))))))))))
      cases hk : keepR sk si ok vl[m].id with
      | false =>
        rw [hk] at hsk
        refine er3s hsk (er_lab ?_)
        rw [hra, List.filter_cons_of_neg (by rw [hk]; simp)]
        exact nx [] hL
      | true =>
        rw [hk] at hsk
        refine er3t hsk (er_t hvC (er_t (by simp; omega) (er_lab ?_)))
        rw [hra, List.filter_cons_of_pos (p := fun r : Vr Ver => keepR sk si r.1 r.2.1.id) (a := (ok, vl[m], decide (m + 1 = vl.length))) hk, List.map_cons, List.cons_append, addAll_room (by simp; omega)]
        exact nx [rowVP (ok, vl[m], decide (m + 1 = vl.length))] (by simp; omega)
    | cons x l =>
      refine Goes.er (er_of (fun k => w13_9b _ p _ c os _ i sb sk si n false (x :: l) ok oc (vl.map vD)) ?_)
      rw [w1, w2, hfl]
      refine er_t (decide_eq_true (by omega)) (er_idx (by omega) hg ?_)
      refine er_agg (er_lc (er_u (er_lc (er_b (er_lc (er_i (er_lc (er_u (er_lc (er_agg (er_lc (er_i (er_lc (er_agg (er_lc (er_i (er_lc (er_i (er_lc (er_b (er_ln (er_lc (er_sl (er_ln ?_))))))))))))))))))))))))
      cases hk : keepR sk si ok vl[m].id with
      | false =>
        rw [hk] at hsk
        refine er3s hsk (er_lab ?_)
        rw [hra, List.filter_cons_of_neg (by rw [hk]; simp)]
        exact nx (x :: l) hL
      | true =>
        rw [hk] at hsk
        rw [hra, List.filter_cons_of_pos (p := fun r : Vr Ver => keepR sk si r.1 r.2.1.id) (a := (ok, vl[m], decide (m + 1 = vl.length))) hk, List.map_cons, List.cons_append]
        by_cases hfull : (x :: l).length = n.toNat
        · have hb : (((x :: l).length : Int) == n) = true := by simp only [beq_iff_eq]; omega
          rw [addAll_full hfull, hb]
          exact er3t hsk (er_t hvC (er_t (room152 (by omega)) (er_t rfl (er_is rfl))))
        · have hb : (((x :: l).length : Int) == n) = false := by rw [beq_eq_false_iff_ne]; omega
          rw [addAll_room hfull, hb]
          exact er3t hsk (er_t hvC (er_t (room152 (by omega)) (er_f rfl (er_lab (nx (x :: l ++ [rowVP (ok, vl[m], decide (m + 1 = vl.length))]) (by simp at hL hfull ⊢; omega))))))
/-- the rows that objects have behind a spot -/
def objRows (p sk : Tx) (si : Int) (o : D) : List D := (bif hpB (oKey o) p then (revRows (oKey o) (vsOf (oVs o))).filter (fun r => keepR sk si r.1 r.2.1.id) else []).map rowVP
theorem keep_less {ok sk : Tx} (h : lessB ok sk = true) (si id : Int) : keepR sk si ok id = false := by
  rw [← keep_eq]; unfold keepP; rw [h]; rfl
theorem filter_none {α : Type} {p : α → Bool} {l : List α} (h : ∀ x ∈ l, p x = false) : l.filter p = [] := List.filter_eq_nil_iff.2 fun x hx => by rw [h x hx]; simp
theorem g13_5 {p sb sk : Tx} {si : Int} {c : Cp} {os : List D} {n : Int} (hn : 1 ≤ n) (hn2 : n ≤ 100) (hos : os.all oC = true) (hol : os.length ≤ 8388608) :
    ∀ (rest pre L : List D) (i : Int), os = pre ++ rest → i = (pre.length : Int) → L.length ≤ n.toNat →
    Goes (Γ mx) W13 13 5 (v5S p sb sk si c os n i L) (resV (addAll n.toNat L (rest.flatMap (objRows p sk si))))
  | [], pre, L, i, he, hi, hL => by
    subst hi
    cases L with
    | nil =>
      refine Goes.er (er_of (fun k => w13_5a _ p c os _ _ sb sk si n false) (er_f (decide_eq_false ?_) (er_is rfl)))
      rw [he]; simp
    | cons x l =>
      refine Goes.er (er_of (fun k => w13_5b _ p c os _ _ sb sk si n false (x :: l)) (er_f (decide_eq_false ?_) (er_is rfl)))
      rw [he]; simp
  | y :: r, pre, L, i, he, hi, hL => by
    subst hi
    have hlen : os.length = pre.length + (r.length + 1) := by rw [he]; simp
    have hg : os[((pre.length : Nat) : Int).toNat]? = some y := by rw [he]; exact get_mid pre y r
    have w1 : IntKind.wrap .i64 ((pre.length : Int) + 1) = (pre.length : Int) + 1 := wrapI (by omega) (by omega)
    have nx := fun L' hL' => g13_5 (p := p) (sb := sb) (sk := sk) (si := si) (c := c) hn hn2 hos hol r (pre ++ [y]) L' ((pre.length : Int) + 1) (by rw [he]; simp) (by simp) hL'
    obtain ⟨yk, yc, vs, hye, _, hvs⟩ := oC_ex (List.all_eq_true.1 hos y (by rw [he]; simp))
    obtain ⟨hvl, hva⟩ := vsC_eq hvs
    obtain ⟨vl, rfl, hvo⟩ := vs_ex hva
    subst hye
    rw [List.length_map] at hvl
    have w2 : IntKind.wrap .i64 (((vl.map vD).length : Int) - 1) = (vl.length : Int) - 1 := by rw [List.length_map]; exact wrapI (by omega) (by omega)
    have hor : objRows p sk si (D.agg [D.str yk, D.slice yc (vl.map vD)]) = (bif hpB yk p then (revRows yk vl).filter (fun r => keepR sk si r.1 r.2.1.id) else []).map rowVP := by
      unfold objRows
      rw [show oVs (D.agg [D.str yk, D.slice yc (vl.map vD)]) = vl.map vD from rfl, hvo]; rfl
    have inner : lessB yk sk = false → hpB yk p = true → Goes (Γ mx) W13 13 9 (v9S p sb sk si c os n (pre.length : Int) yk yc (vl.map vD) ((vl.length : Int) - 1) L) (resV (addAll n.toNat L ((D.agg [D.str yk, D.slice yc (vl.map vD)] :: r).flatMap (objRows p sk si)))) := by
      intro hlt hp
      rw [List.flatMap_cons, hor, hp, cond_true, ← rowsAt_all]
      exact g13_9 hn hn2 (by omega) (by omega) hvl hva hlt (fun L' hL' => nx L' hL') vl.length _ L (Nat.le_refl _) rfl hL
    have away : (bif hpB yk p then (revRows yk vl).filter (fun r => keepR sk si r.1 r.2.1.id) else []) = [] → (D.agg [D.str yk, D.slice yc (vl.map vD)] :: r).flatMap (objRows p sk si) = r.flatMap (objRows p sk si) := by
      intro h
      rw [List.flatMap_cons, hor, h]; rfl
    have away2 : lessB yk sk = true → (revRows yk vl).filter (fun r => keepR sk si r.1 r.2.1.id) = [] := fun h => filter_none fun x hx => by rw [(mem_rev hx).1]; exact keep_less h si _
    cases L with
    | nil =>
      refine Goes.er (er_of (fun k => w13_5a _ p c os _ _ sb sk si n false) ?_)
      rw [w1]
      refine er_t (decide_eq_true (by omega)) (er_idx (by omega) hg (er_agg (er_lc (er_s (er_lc (er_sl (er_ln ?_)))))))
      rw [w2]
      refine er_if (fun hp => ?_) (fun hp => ?_)
      · rw [away (by rw [show hpB yk p = false by simpa using hp]; rfl)]; exact er_lab (nx [] hL)
      · have hp : hpB yk p = true := by simpa using hp
        refine er_if (fun hl => ?_) (fun hl => er_lab (inner hl hp))
        rw [away (by rw [hp, cond_true, away2 hl])]; exact er_lab (nx [] hL)
    | cons x l =>
      refine Goes.er (er_of (fun k => w13_5b _ p c os _ _ sb sk si n false (x :: l)) ?_)
      rw [w1]
      refine er_t (decide_eq_true (by omega)) (er_idx (by omega) hg (er_agg (er_lc (er_s (er_lc (er_sl (er_ln ?_)))))))
      rw [w2]
      refine er_if (fun hp => ?_) (fun hp => ?_)
      · rw [away (by rw [show hpB yk p = false by simpa using hp]; rfl)]; exact er_lab (nx (x :: l) hL)
      · have hp : hpB yk p = true := by simpa using hp
        refine er_if (fun hl => ?_) (fun hl => er_lab (inner hl hp))
        rw [away (by rw [hp, cond_true, away2 hl])]; exact er_lab (nx (x :: l) hL)
end Go.Proofs.Ytapaenfafjmljaa.V

/- Lists: what the machine over values makes of functions (14,): equations, written by program. -/
namespace Go.Proofs.Ytapaenfafjmljaa.V
open Go
set_option maxRecDepth 100000
set_option linter.unusedVariables false
set_option linter.unusedSimpArgs false
variable {mx : Int}
def W14 : Handle := runS [⟨23, dat (sp2 (fun _ _ => true) fun a b => .b (hpB a b))⟩, ⟨25, dat spPg⟩]
theorem w14 (lab : Lab) (bn : List UInt8) (bm : Int) (bd : Int) (brc : Cp) (brs : List D) (bgc : Cp) (bgs : List D) (boc : Cp) (bos : List D) (buc : Cp) (bus : List D) (p : List UInt8) (pb : List UInt8) (pk : List UInt8) (pi : Int) (n : Int) : evF (Γ mx) W14 lab 14 [.d 32 (D.agg [D.str bn, D.agg [D.int .i64 bm, D.int .i64 bd], D.slice brc brs, D.slice bgc bgs, D.slice boc bos, D.slice buc bus]), .s p, .d 43 (D.agg [D.str pb, D.str pk, D.int .u64 pi]), .i .i64 n] [] =
  bif decide (n < 1) then (some (.tuple [.snil, .b false, .i .i64 1], [])) else (bif decide (n > 100) then (some (.tuple [.snil, .b false, .i .i64 1], [])) else (lab (todoAt (Γ mx) 14 5) ⟨[(1, .s p), (3, .i .i64 n), (4, .ptr 0 [] 32), (6, .ptr 1 [] 43), (11, .ref 54 2), (12, .i .i64 0)], [some (.box 32 (.d 32 (D.agg [D.str bn, D.agg [D.int .i64 bm, D.int .i64 bd], D.slice brc brs, D.slice bgc bgs, D.slice boc bos, D.slice buc bus]))), some (.box 43 (.d 43 (D.agg [D.str pb, D.str pk, D.int .u64 pi]))), some (.arr 54 [] false)]⟩)) := by kernel_rfl
theorem w14_5a (lab : Lab) (s1 : List UInt8) (n2 : Int) (n3 : Int) (s4 : List UInt8) (n5 : Int) (n6 : Int) (c7 : Cp) (l8 : List D) (c9 : Cp) (l10 : List D) (c11 : Cp) (l12 : List D) (c13 : Cp) (l14 : List D) (s15 : List UInt8) (s16 : List UInt8) (n17 : Int) (l18 : List D) : evL (Γ mx) W14 lab 14 5 ⟨[(1, .s s1), (3, .i .i64 n2), (4, .ptr 0 [] 32), (6, .ptr 1 [] 43), (11, .ref 54 2), (12, .i .i64 n3)], [some (.box 32 (.d 32 (D.agg [D.str s4, D.agg [D.int .i64 n5, D.int .i64 n6], D.slice c7 l8, D.slice c9 l10, D.slice c11 l12, D.slice c13 l14]))), some (.box 43 (.d 43 (D.agg [D.str s15, D.str s16, D.int .u64 n17]))), some (.arr 54 l18 false)]⟩ =
  bif decide (n3 < ((l12.length : Int))) then (idx l12 n3 fun y19 => dAgg y19 fun y20 => lCons y20 fun a21 r22 => dStr a21 fun s23 => lCons r22 fun a24 r25 => dSlice a24 fun c26 l27 => lNil r25 (bif !(hpB s23 s1) then (lab (todoAt (Γ mx) 14 5) ⟨[(1, .s s1), (3, .i .i64 n2), (4, .ptr 0 [] 32), (6, .ptr 1 [] 43), (11, .ref 54 2), (12, .i .i64 (IntKind.wrap .i64 (n3 + 1)))], [some (.box 32 (.d 32 (D.agg [D.str s4, D.agg [D.int .i64 n5, D.int .i64 n6], D.slice c7 l8, D.slice c9 l10, D.slice c11 l12, D.slice c13 l14]))), some (.box 43 (.d 43 (D.agg [D.str s15, D.str s16, D.int .u64 n17]))), some (.arr 54 l18 false)]⟩) else (lab (todoAt (Γ mx) 14 10) ⟨[(1, .s s1), (3, .i .i64 n2), (4, .ptr 0 [] 32), (6, .ptr 1 [] 43), (11, .ref 54 2), (12, .i .i64 n3), (13, .ptr 3 [] 59), (14, .i .i64 (IntKind.wrap .i64 (((l27.length : Int)) - 1)))], [some (.box 32 (.d 32 (D.agg [D.str s4, D.agg [D.int .i64 n5, D.int .i64 n6], D.slice c7 l8, D.slice c9 l10, D.slice c11 l12, D.slice c13 l14]))), some (.box 43 (.d 43 (D.agg [D.str s15, D.str s16, D.int .u64 n17]))), some (.arr 54 l18 false), some (.box 59 (.d 59 (D.agg [D.str s23, D.slice c26 l27])))]⟩))) else (bif pgC n2 then (some (.tuple [.sl 54 .any ((List.take (Int.toNat n2) l18)), .b (decide (n2 < (List.length l18 : Int))), .i .i64 0], [])) else none) := by kernel_rfl
theorem w14_10a (lab : Lab) (s1 : List UInt8) (n2 : Int) (n3 : Int) (n4 : Int) (s5 : List UInt8) (n6 : Int) (n7 : Int) (c8 : Cp) (l9 : List D) (c10 : Cp) (l11 : List D) (c12 : Cp) (l13 : List D) (c14 : Cp) (l15 : List D) (s16 : List UInt8) (s17 : List UInt8) (n18 : Int) (l19 : List D) (s20 : List UInt8) (c21 : Cp) (l22 : List D) : evL (Γ mx) W14 lab 14 10 ⟨[(1, .s s1), (3, .i .i64 n2), (4, .ptr 0 [] 32), (6, .ptr 1 [] 43), (11, .ref 54 2), (12, .i .i64 n3), (13, .ptr 3 [] 59), (14, .i .i64 n4)], [some (.box 32 (.d 32 (D.agg [D.str s5, D.agg [D.int .i64 n6, D.int .i64 n7], D.slice c8 l9, D.slice c10 l11, D.slice c12 l13, D.slice c14 l15]))), some (.box 43 (.d 43 (D.agg [D.str s16, D.str s17, D.int .u64 n18]))), some (.arr 54 l19 false), some (.box 59 (.d 59 (D.agg [D.str s20, D.slice c21 l22])))]⟩ =
  bif decide (n4 ≥ 0) then (idx l22 n4 fun y23 => dAgg y23 fun y24 => lCons y24 fun a25 r26 => dInt .u64 a25 fun n27 => lCons r26 fun a28 r29 => dBool a28 fun b30 => lCons r29 fun a31 r32 => dInt .i64 a31 fun n33 => lCons r32 fun a34 r35 => dInt .u64 a34 fun n36 => lCons r35 fun a37 r38 => dAgg a37 fun y39 => lCons r38 fun a40 r41 => dInt .i64 a40 fun n42 => lCons r41 fun a43 r44 => dAgg a43 fun y45 => lCons y45 fun a46 r47 => dInt .i64 a46 fun n48 => lCons r47 fun a49 r50 => dInt .i64 a49 fun n51 => lCons r50 fun a52 r53 => dBool a52 fun b54 => lNil r53 (lCons r44 fun a55 r56 => dSlice a55 fun c57 l58 => lNil r56 (bif s17 == ([] : List UInt8) then (bif roomB (l19.length + 1) 152 then (lab (todoAt (Γ mx) 14 10) ⟨[(1, .s s1), (3, .i .i64 n2), (4, .ptr 0 [] 32), (6, .ptr 1 [] 43), (11, .ref 54 2), (12, .i .i64 n3), (13, .ptr 3 [] 59), (14, .i .i64 (IntKind.wrap .i64 (n4 - 1)))], [some (.box 32 (.d 32 (D.agg [D.str s5, D.agg [D.int .i64 n6, D.int .i64 n7], D.slice c8 l9, D.slice c10 l11, D.slice c12 l13, D.slice c14 l15]))), some (.box 43 (.d 43 (D.agg [D.str s16, D.str s17, D.int .u64 n18]))), some (.arr 54 (l19 ++ [D.agg [D.str s20, D.bool false, D.agg [D.int .u64 n27, D.bool b30, D.int .i64 n33, D.int .u64 n36, D.agg y39, D.int .i64 n42, D.agg [D.int .i64 n48, D.int .i64 n51, D.bool b54], D.slice c57 l58], D.bool (n4 == (IntKind.wrap .i64 (((l22.length : Int)) - 1)))]]) false), some (.box 59 (.d 59 (D.agg [D.str s20, D.slice c21 l22])))]⟩) else none) else (bif !(lessB s20 s17 || s20 == s17) then (bif roomB (l19.length + 1) 152 then (lab (todoAt (Γ mx) 14 10) ⟨[(1, .s s1), (3, .i .i64 n2), (4, .ptr 0 [] 32), (6, .ptr 1 [] 43), (11, .ref 54 2), (12, .i .i64 n3), (13, .ptr 3 [] 59), (14, .i .i64 (IntKind.wrap .i64 (n4 - 1)))], [some (.box 32 (.d 32 (D.agg [D.str s5, D.agg [D.int .i64 n6, D.int .i64 n7], D.slice c8 l9, D.slice c10 l11, D.slice c12 l13, D.slice c14 l15]))), some (.box 43 (.d 43 (D.agg [D.str s16, D.str s17, D.int .u64 n18]))), some (.arr 54 (l19 ++ [D.agg [D.str s20, D.bool false, D.agg [D.int .u64 n27, D.bool b30, D.int .i64 n33, D.int .u64 n36, D.agg y39, D.int .i64 n42, D.agg [D.int .i64 n48, D.int .i64 n51, D.bool b54], D.slice c57 l58], D.bool (n4 == (IntKind.wrap .i64 (((l22.length : Int)) - 1)))]]) false), some (.box 59 (.d 59 (D.agg [D.str s20, D.slice c21 l22])))]⟩) else none) else (bif s20 == s17 then (bif decide (n27 < n18) then (bif roomB (l19.length + 1) 152 then (lab (todoAt (Γ mx) 14 10) ⟨[(1, .s s1), (3, .i .i64 n2), (4, .ptr 0 [] 32), (6, .ptr 1 [] 43), (11, .ref 54 2), (12, .i .i64 n3), (13, .ptr 3 [] 59), (14, .i .i64 (IntKind.wrap .i64 (n4 - 1)))], [some (.box 32 (.d 32 (D.agg [D.str s5, D.agg [D.int .i64 n6, D.int .i64 n7], D.slice c8 l9, D.slice c10 l11, D.slice c12 l13, D.slice c14 l15]))), some (.box 43 (.d 43 (D.agg [D.str s16, D.str s17, D.int .u64 n18]))), some (.arr 54 (l19 ++ [D.agg [D.str s20, D.bool false, D.agg [D.int .u64 n27, D.bool b30, D.int .i64 n33, D.int .u64 n36, D.agg y39, D.int .i64 n42, D.agg [D.int .i64 n48, D.int .i64 n51, D.bool b54], D.slice c57 l58], D.bool (n4 == (IntKind.wrap .i64 (((l22.length : Int)) - 1)))]]) false), some (.box 59 (.d 59 (D.agg [D.str s20, D.slice c21 l22])))]⟩) else none) else (lab (todoAt (Γ mx) 14 10) ⟨[(1, .s s1), (3, .i .i64 n2), (4, .ptr 0 [] 32), (6, .ptr 1 [] 43), (11, .ref 54 2), (12, .i .i64 n3), (13, .ptr 3 [] 59), (14, .i .i64 (IntKind.wrap .i64 (n4 - 1)))], [some (.box 32 (.d 32 (D.agg [D.str s5, D.agg [D.int .i64 n6, D.int .i64 n7], D.slice c8 l9, D.slice c10 l11, D.slice c12 l13, D.slice c14 l15]))), some (.box 43 (.d 43 (D.agg [D.str s16, D.str s17, D.int .u64 n18]))), some (.arr 54 l19 false), some (.box 59 (.d 59 (D.agg [D.str s20, D.slice c21 l22])))]⟩)) else (lab (todoAt (Γ mx) 14 10) ⟨[(1, .s s1), (3, .i .i64 n2), (4, .ptr 0 [] 32), (6, .ptr 1 [] 43), (11, .ref 54 2), (12, .i .i64 n3), (13, .ptr 3 [] 59), (14, .i .i64 (IntKind.wrap .i64 (n4 - 1)))], [some (.box 32 (.d 32 (D.agg [D.str s5, D.agg [D.int .i64 n6, D.int .i64 n7], D.slice c8 l9, D.slice c10 l11, D.slice c12 l13, D.slice c14 l15]))), some (.box 43 (.d 43 (D.agg [D.str s16, D.str s17, D.int .u64 n18]))), some (.arr 54 l19 false), some (.box 59 (.d 59 (D.agg [D.str s20, D.slice c21 l22])))]⟩)))))) else (lab (todoAt (Γ mx) 14 5) ⟨[(1, .s s1), (3, .i .i64 n2), (4, .ptr 0 [] 32), (6, .ptr 1 [] 43), (11, .ref 54 2), (12, .i .i64 (IntKind.wrap .i64 (n3 + 1)))], [some (.box 32 (.d 32 (D.agg [D.str s5, D.agg [D.int .i64 n6, D.int .i64 n7], D.slice c8 l9, D.slice c10 l11, D.slice c12 l13, D.slice c14 l15]))), some (.box 43 (.d 43 (D.agg [D.str s16, D.str s17, D.int .u64 n18]))), some (.arr 54 l19 false)]⟩) := by kernel_rfl
end Go.Proofs.Ytapaenfafjmljaa.V

/- Lists: the document's Versions: its contract. -/
namespace Go.Proofs.Ytapaenfafjmljaa.V
open Go
set_option maxRecDepth 100000
set_option linter.unusedVariables false
set_option linter.unusedSimpArgs false
variable {mx : Int}
def resR (n : Int) (L : List D) : AV × Objs := (.tuple [.sl 54 .any ((List.take (Int.toNat n) L)), .b (decide (n < (List.length L : Int))), .i .i64 0], [])
theorem W14_ok : CallsOK (Γ mx) W14 := specs_ok (.cons (sp2_ok k36) (.cons spPg_ok .nil))
theorem keepR_def (sk ok : Tx) (si id : Int) : ((sk == []) || (!(lessB ok sk || ok == sk) || (ok == sk && decide (id < si)))) = keepR sk si ok id := by
  unfold keepR
  rw [le_less]
  simp
theorem g14_10 {p sb sk : Tx} {si : Int} {nm : Tx} {md dy : Int} {c1 c2 c3 c4 : Cp} {rs gs os us : List D} {n i : Int} {ok : Tx} {oc : Cp} {vl : List Ver} {R : List D} (B : Nat) (hB : B ≤ 1000000) (hi : 0 ≤ i) (hi2 : i ≤ 8388608) (hvl : vl.length ≤ 8388608)
    (hc : ∀ L : List D, L.length ≤ B → Goes (Γ mx) W14 14 5 ⟨[(1, .s p), (3, .i .i64 n), (4, .ptr 0 [] 32), (6, .ptr 1 [] 43), (11, .ref 54 2), (12, .i .i64 (i + 1))], [some (.box 32 (.d 32 (D.agg [D.str nm, D.agg [D.int .i64 md, D.int .i64 dy], D.slice c1 rs, D.slice c2 gs, D.slice c3 os, D.slice c4 us]))), some (.box 43 (.d 43 (D.agg [D.str sb, D.str sk, D.int .u64 si]))), some (.arr 54 L false)]⟩ (resR n (L ++ R))) :
    ∀ (m : Nat) (j : Int) (L : List D), m ≤ vl.length → j = (m : Int) - 1 → L.length + m ≤ B →
    Goes (Γ mx) W14 14 10 ⟨[(1, .s p), (3, .i .i64 n), (4, .ptr 0 [] 32), (6, .ptr 1 [] 43), (11, .ref 54 2), (12, .i .i64 i), (13, .ptr 3 [] 59), (14, .i .i64 j)], [some (.box 32 (.d 32 (D.agg [D.str nm, D.agg [D.int .i64 md, D.int .i64 dy], D.slice c1 rs, D.slice c2 gs, D.slice c3 os, D.slice c4 us]))), some (.box 43 (.d 43 (D.agg [D.str sb, D.str sk, D.int .u64 si]))), some (.arr 54 L false), some (.box 59 (.d 59 (D.agg [D.str ok, D.slice oc (vl.map vD)])))]⟩
      (resR n (L ++ (((rowsAt ok vl m).filter fun r => keepR sk si r.1 r.2.1.id).map rowVR ++ R)))
  | 0, j, L, hm, hj, hL => by
    subst hj
    have w1 : IntKind.wrap .i64 (i + 1) = i + 1 := wrapI (by omega) (by omega)
    refine Goes.er (er_of (fun k => w14_10a _ p n i _ nm md dy c1 rs c2 gs c3 os c4 us sb sk si L ok oc (vl.map vD)) ?_)
    rw [w1]
    exact er_f (decide_eq_false (by omega)) (er_lab (hc L (by omega)))
  | m + 1, j, L, hm, hj, hL => by
    have hj' : j = (m : Int) := by omega
    subst hj'
    have hlt' : m < vl.length := by omega
    have hg : (vl.map vD)[((m : Nat) : Int).toNat]? = some (vD vl[m]) := by rw [Int.toNat_natCast, List.getElem?_map, List.getElem?_eq_getElem hlt']; rfl
    have w1 : IntKind.wrap .i64 ((m : Int) - 1) = (m : Int) - 1 := wrapI (by omega) (by omega)
    have w2 : IntKind.wrap .i64 (((vl.map vD).length : Int) - 1) = (vl.length : Int) - 1 := by rw [List.length_map]; exact wrapI (by omega) (by omega)
    have hfl : ((m : Int) == (vl.length : Int) - 1) = decide (m + 1 = vl.length) := by
      by_cases h : m + 1 = vl.length
      · rw [decide_eq_true h]; simp; omega
      · rw [decide_eq_false h]; simp; omega
    have hra : rowsAt ok vl (m + 1) = (ok, vl[m], decide (m + 1 = vl.length)) :: rowsAt ok vl m := by rw [rowsAt, List.getElem?_eq_getElem hlt']
    have nx := fun L' hL' => g14_10 (oc := oc) (ok := ok) B hB hi hi2 hvl hc m ((m : Int) - 1) L' (by omega) rfl hL'
    have hsk := keepR_def sk ok si vl[m].id
    refine Goes.er (er_of (fun k => w14_10a _ p n i _ nm md dy c1 rs c2 gs c3 os c4 us sb sk si L ok oc (vl.map vD)) ?_)
    rw [w1, w2, hfl]
    refine er_t (decide_eq_true (by omega)) (er_idx (by omega) hg ?_)
    refine er_agg (er_lc (er_u (er_lc (er_b (er_lc (er_i (er_lc (er_u (er_lc (er_agg (er_lc (er_i (er_lc (er_agg (er_lc (er_i (er_lc (er_i (er_lc (er_b (er_ln (er_lc (er_sl (er_ln ?_))))))))))))))))))))))))
    cases hk : keepR sk si ok vl[m].id with
    | false =>
      rw [hk] at hsk
      refine er4s hsk (er_lab ?_)
      rw [hra, List.filter_cons_of_neg (by rw [hk]; simp)]
      exact nx L (by omega)
    | true =>
      rw [hk] at hsk
      refine er4t hsk (er_t (room152 (by omega)) (er_lab ?_))
      rw [hra, List.filter_cons_of_pos (p := fun r : Vr Ver => keepR sk si r.1 r.2.1.id) (a := (ok, vl[m], decide (m + 1 = vl.length))) hk, List.map_cons, List.cons_append]
      have e := nx (L ++ [rowVR (ok, vl[m], decide (m + 1 = vl.length))]) (by rw [List.length_append, List.length_singleton]; omega)
      rw [List.append_assoc, List.singleton_append] at e
      exact e
def objRowsR (p sk : Tx) (si : Int) (o : D) : List D := (bif hpB (oKey o) p then (revRows (oKey o) (vsOf (oVs o))).filter (fun r => keepR sk si r.1 r.2.1.id) else []).map rowVR
theorem g14_5 {p sb sk : Tx} {si : Int} {nm : Tx} {md dy : Int} {c1 c2 c3 c4 : Cp} {rs gs os us : List D} {n : Int} (hn : 1 ≤ n) (hos : os.all oC = true) (hol : os.length ≤ 8388608) :
    ∀ (rest pre L : List D) (i : Int), os = pre ++ rest → i = (pre.length : Int) → L.length + totV rest ≤ 1000000 →
    Goes (Γ mx) W14 14 5 ⟨[(1, .s p), (3, .i .i64 n), (4, .ptr 0 [] 32), (6, .ptr 1 [] 43), (11, .ref 54 2), (12, .i .i64 i)], [some (.box 32 (.d 32 (D.agg [D.str nm, D.agg [D.int .i64 md, D.int .i64 dy], D.slice c1 rs, D.slice c2 gs, D.slice c3 os, D.slice c4 us]))), some (.box 43 (.d 43 (D.agg [D.str sb, D.str sk, D.int .u64 si]))), some (.arr 54 L false)]⟩
      (resR n (L ++ rest.flatMap (objRowsR p sk si)))
  | [], pre, L, i, he, hi, hL => by
    subst hi
    refine Goes.er (er_of (fun k => w14_5a _ p n _ nm md dy c1 rs c2 gs c3 os c4 us sb sk si L) (er_f (decide_eq_false ?_) (er_t (decide_eq_true (show (0 : Int) ≤ n by omega)) (er_is ?_))))
    · rw [he]; simp
    · rw [List.flatMap_nil, List.append_nil]; rfl
  | y :: r, pre, L, i, he, hi, hL => by
    subst hi
    have hlen : os.length = pre.length + (r.length + 1) := by rw [he]; simp
    have hg : os[((pre.length : Nat) : Int).toNat]? = some y := by rw [he]; exact get_mid pre y r
    have w1 : IntKind.wrap .i64 ((pre.length : Int) + 1) = (pre.length : Int) + 1 := wrapI (by omega) (by omega)
    have nx := fun L' hL' => g14_5 (p := p) (sb := sb) (sk := sk) (si := si) (nm := nm) (md := md) (dy := dy) (c1 := c1) (c2 := c2) (c3 := c3) (c4 := c4) (rs := rs) (gs := gs) (us := us) hn hos hol r (pre ++ [y]) L' ((pre.length : Int) + 1) (by rw [he]; simp) (by simp) hL'
    obtain ⟨yk, yc, vs, hye, _, hvs⟩ := oC_ex (List.all_eq_true.1 hos y (by rw [he]; simp))
    obtain ⟨hvl, hva⟩ := vsC_eq hvs
    obtain ⟨vl, rfl, hvo⟩ := vs_ex hva
    subst hye
    have htot : totV (D.agg [D.str yk, D.slice yc (vl.map vD)] :: r) = vl.length + totV r := by
      show (vl.map vD).length + totV r = _
      rw [List.length_map]
    rw [htot] at hL
    rw [List.length_map] at hvl
    have w2 : IntKind.wrap .i64 (((vl.map vD).length : Int) - 1) = (vl.length : Int) - 1 := by rw [List.length_map]; exact wrapI (by omega) (by omega)
    have hor : objRowsR p sk si (D.agg [D.str yk, D.slice yc (vl.map vD)]) = (bif hpB yk p then (revRows yk vl).filter (fun r => keepR sk si r.1 r.2.1.id) else []).map rowVR := by
      unfold objRowsR
      rw [show oVs (D.agg [D.str yk, D.slice yc (vl.map vD)]) = vl.map vD from rfl, hvo]; rfl
    refine Goes.er (er_of (fun k => w14_5a _ p n _ nm md dy c1 rs c2 gs c3 os c4 us sb sk si L) ?_)
    rw [w1]
    refine er_t (decide_eq_true (by omega)) (er_idx (by omega) hg (er_agg (er_lc (er_s (er_lc (er_sl (er_ln ?_)))))))
    rw [w2, List.flatMap_cons, hor]
    refine er_if (fun hp => ?_) (fun hp => ?_)
    · rw [show hpB yk p = false by simpa using hp]; exact er_lab (nx L (by omega))
    · rw [show hpB yk p = true by simpa using hp, cond_true, ← rowsAt_all]
      exact er_lab (g14_10 (L.length + vl.length) (by omega) (by omega) (by omega) hvl (fun L' hL' => nx L' (by omega)) vl.length _ L (Nat.le_refl _) rfl (Nat.le_refl _))
end Go.Proofs.Ytapaenfafjmljaa.V

/- Lists: what the machine over values makes of functions (4,): equations, written by program. -/
namespace Go.Proofs.Ytapaenfafjmljaa.V
open Go
set_option maxRecDepth 100000
set_option linter.unusedVariables false
set_option linter.unusedSimpArgs false
variable {mx : Int}
noncomputable def W4 (mx : Int) : Handle := runS [⟨9, dat (sp0 true (.b true))⟩, ⟨8, dat (spD1 24 stC fun s => .tuple [.d 32 (firD mx s), .b (firB mx s)])⟩, ⟨13, dat (spVy rowVP)⟩, ⟨14, dat (spVy rowVR)⟩, ⟨12, dat (spLL 54 54 (fun a b => rwC a && rwC b) fun a b => .b (rowsS a b))⟩]
theorem w4 (lab : Lab) (sm : Int) (sn : Int) (sb : Int) (sc : Cp) (sl : List D) (p : List UInt8) (pb : List UInt8) (pk : List UInt8) (pi : Int) (n : Int) : evF (Γ mx) (W4 mx) lab 4 [.d 24 (D.agg [D.int .i64 sm, D.int .u64 sn, D.int .u64 sb, D.slice sc sl]), .s p, .d 43 (D.agg [D.str pb, D.str pk, D.int .u64 pi]), .i .i64 n] [] =
  bif stC (D.agg [D.int .i64 sm, D.int .u64 sn, D.int .u64 sb, D.slice sc sl]) then (dAgg ((firD mx (D.agg [D.int .i64 sm, D.int .u64 sn, D.int .u64 sb, D.slice sc sl]))) fun y1 => lCons y1 fun a2 r3 => dStr a2 fun s4 => lCons r3 fun a5 r6 => dAgg a5 fun y7 => lCons y7 fun a8 r9 => dInt .i64 a8 fun n10 => lCons r9 fun a11 r12 => dInt .i64 a11 fun n13 => lNil r12 (lCons r6 fun a14 r15 => dSlice a14 fun c16 l17 => lCons r15 fun a18 r19 => dSlice a18 fun c20 l21 => lCons r19 fun a22 r23 => dSlice a22 fun c24 l25 => lCons r23 fun a26 r27 => dSlice a26 fun c28 l29 => lNil r27 (bif !(firB mx (D.agg [D.int .i64 sm, D.int .u64 sn, D.int .u64 sb, D.slice sc sl])) then (some (.b true, [])) else (bif bkS (D.agg [D.str s4, D.agg [D.int .i64 n10, D.int .i64 n13], D.slice c16 l17, D.slice c20 l21, D.slice c24 l25, D.slice c28 l29]) && isSp (D.agg [D.str pb, D.str pk, D.int .u64 pi]) then (bif bkS (D.agg [D.str s4, D.agg [D.int .i64 n10, D.int .i64 n13], D.slice c16 l17, D.slice c20 l21, D.slice c24 l25, D.slice c28 l29]) && isSp (D.agg [D.str pb, D.str pk, D.int .u64 pi]) then (bif (pgE n) == (pgE n) then (bif (vyM (D.agg [D.str s4, D.agg [D.int .i64 n10, D.int .i64 n13], D.slice c16 l17, D.slice c20 l21, D.slice c24 l25, D.slice c28 l29]) p (D.agg [D.str pb, D.str pk, D.int .u64 pi]) n) == (vyM (D.agg [D.str s4, D.agg [D.int .i64 n10, D.int .i64 n13], D.slice c16 l17, D.slice c20 l21, D.slice c24 l25, D.slice c28 l29]) p (D.agg [D.str pb, D.str pk, D.int .u64 pi]) n) then (bif rwC (((vyL rowVP (D.agg [D.str s4, D.agg [D.int .i64 n10, D.int .i64 n13], D.slice c16 l17, D.slice c20 l21, D.slice c24 l25, D.slice c28 l29]) p (D.agg [D.str pb, D.str pk, D.int .u64 pi]) n))) && rwC (((vyL rowVR (D.agg [D.str s4, D.agg [D.int .i64 n10, D.int .i64 n13], D.slice c16 l17, D.slice c20 l21, D.slice c24 l25, D.slice c28 l29]) p (D.agg [D.str pb, D.str pk, D.int .u64 pi]) n))) then (some (.b (rowsS (((vyL rowVP (D.agg [D.str s4, D.agg [D.int .i64 n10, D.int .i64 n13], D.slice c16 l17, D.slice c20 l21, D.slice c24 l25, D.slice c28 l29]) p (D.agg [D.str pb, D.str pk, D.int .u64 pi]) n))) (((vyL rowVR (D.agg [D.str s4, D.agg [D.int .i64 n10, D.int .i64 n13], D.slice c16 l17, D.slice c20 l21, D.slice c24 l25, D.slice c28 l29]) p (D.agg [D.str pb, D.str pk, D.int .u64 pi]) n)))), [])) else none) else (some (.b false, []))) else (some (.b false, []))) else none) else none)))) else none := by kernel_rfl
end Go.Proofs.Ytapaenfafjmljaa.V

/- Lists: Versions twice: contracts; the law ListVersions. -/
namespace Go.Proofs.Ytapaenfafjmljaa.V
open Go
set_option maxRecDepth 100000
set_option linter.unusedVariables false
set_option linter.unusedSimpArgs false
variable {mx : Int}
theorem rep_nil {P : Program} {w : World} {S : Addr → Prop} {σ : Loc} {ob : Objs} {e : TypeId} {r : List AV} {v : Value} (h : RepA P w S σ ob (.tuple (.snil :: r)) v) : RepA P w S σ ob (.tuple (.sl e .any [] :: r)) v := by
  simp only [RepA, RepAs] at h ⊢
  obtain ⟨vs, rfl, v0, vs', rfl, rfl, h2⟩ := h
  exact ⟨_, rfl, _, _, rfl, ⟨none, 0, rfl, ⟨Nat.le_refl _, fun _ => rfl⟩, .inl trivial⟩, h2⟩
theorem rep_nl {P : Program} {w : World} {S : Addr → Prop} {σ : Loc} {ob : Objs} {e : TypeId} {r : List AV} {v : Value} (h : RepA P w S σ ob (.tuple (.sl e .nl [] :: r)) v) : RepA P w S σ ob (.tuple (.sl e .any [] :: r)) v := by
  simp only [RepA, RepAs] at h ⊢
  obtain ⟨vs, rfl, v0, vs', rfl, ⟨a, cap, rfl, h1, _⟩, h2⟩ := h
  obtain ⟨rfl, _, rfl⟩ := h1
  exact ⟨_, rfl, _, _, rfl, ⟨none, 0, rfl, ⟨Nat.le_refl _, fun _ => rfl⟩, .inl trivial⟩, h2⟩
theorem ret_nil {f : FuncId} {args : List AV} {e : TypeId} {r : List AV} (h : RetX (Γ mx) f args [] (.tuple (.snil :: r)) []) : RetX (Γ mx) f args [] (.tuple (.sl e .any [] :: r)) [] := h.to fun _ _ _ _ q => rep_nil q
theorem ret_resV {f : FuncId} {args : List AV} {x : List D × Bool} (h : RetX (Γ mx) f args [] (resV x).1 []) : RetX (Γ mx) f args [] (.tuple [.sl 54 .any x.1, .b x.2, .i .i64 0]) [] := by
  obtain ⟨l, m⟩ := x
  cases l with
  | nil => exact h.to fun _ _ _ _ q => rep_nl q
  | cons y r => exact h
theorem resV_ob (x : List D × Bool) : resV x = ((resV x).1, []) := by
  obtain ⟨l, m⟩ := x
  cases l <;> rfl
theorem pgE_lo {n : Int} (h : n < 1) : pgE n = 1 := by unfold pgE; rw [decide_eq_true h]; rfl
theorem pgE_hi {n : Int} (h : n > 100) : pgE n = 1 := by unfold pgE; rw [decide_eq_false (show ¬ n < 1 by omega), decide_eq_true h]; rfl
theorem pgE_ok {n : Int} (h1 : 1 ≤ n) (h2 : n ≤ 100) : pgE n = 0 := by unfold pgE; rw [decide_eq_false (show ¬ n < 1 by omega), decide_eq_false (show ¬ n > 100 by omega)]; rfl
theorem flat_rows (f : Vr Ver → D) (p sk : Tx) (si : Int) (os : List D) : os.flatMap (fun o => (bif hpB (oKey o) p then (revRows (oKey o) (vsOf (oVs o))).filter (fun r => keepR sk si r.1 r.2.1.id) else []).map f) = (rowsV (fun k => hpB k p) Ver.id (os.map oP) sk si).map f := by
  unfold rowsV
  rw [List.map_flatMap, List.flatMap_map]
  rfl
theorem isSp_ex {d : D} (h : isSp d = true) : ∃ a b i, d = .agg [.str a, .str b, .int .u64 i] := by
  unfold isSp at h
  split at h
  · exact ⟨_, _, _, rfl⟩
  · exact absurd h (by simp)
theorem bkS_eq {b : D} (h : bkS b = true) : bkC b = true ∧ totV (bObj b) ≤ 4096 := by
  unfold bkS at h
  simpa using h
theorem c13' (b : D) (p : Tx) (s : D) (n : Int) (hb : bkS b = true) (hs : isSp s = true) : RetX (Γ mx) 13 [.d 32 b, .s p, .d 43 s, .i .i64 n] [] (.tuple [.sl 54 .any (vyL rowVP b p s n), .b (vyM b p s n), .i .i64 (pgE n)]) [] := by
  obtain ⟨hb, ht⟩ := bkS_eq hb
  obtain ⟨nm, md, dy, c1, rs, c2, gs, c3, os, c4, us, rfl, k1, k2, k3, k4, k5, k6⟩ := bkC_ex hb
  obtain ⟨sa, sk, si, rfl⟩ := isSp_ex hs
  by_cases h1 : n < 1
  · have e := pgE_lo h1
    unfold vyL vyM
    rw [e]
    refine ret_nil (e := 54) (ret_goes (Γ := Γ mx) hP hZ W13_ok (by kernel_rfl) ⟨0, ?_⟩)
    rw [w13, decide_eq_true h1]; rfl
  · by_cases h2 : n > 100
    · have e := pgE_hi h2
      unfold vyL vyM
      rw [e]
      refine ret_nil (e := 54) (ret_goes (Γ := Γ mx) hP hZ W13_ok (by kernel_rfl) ⟨0, ?_⟩)
      rw [w13, decide_eq_false h1, decide_eq_true h2]; rfl
    · have e := pgE_ok (show 1 ≤ n by omega) (show n ≤ 100 by omega)
      obtain ⟨m, hm⟩ := g13_5 (mx := mx) (p := p) (sb := sa) (sk := sk) (si := si) (c := c3) (os := os) (n := n) (by omega) (by omega) k4 k5 os [] [] 0 rfl rfl (by simp)
      rw [addAll_eq _ _ _ (by simp), List.nil_append, show os.flatMap (objRows p sk si) = (rowsV (fun k => hpB k p) Ver.id (os.map oP) sk si).map rowVP from flat_rows rowVP p sk si os] at hm
      have hv : vRows (D.agg [D.str nm, D.agg [D.int .i64 md, D.int .i64 dy], D.slice c1 rs, D.slice c2 gs, D.slice c3 os, D.slice c4 us]) p (D.agg [D.str sa, D.str sk, D.int .u64 si]) = rowsV (fun k => hpB k p) Ver.id (os.map oP) sk si := rfl
      unfold vyL vyM
      rw [e, hv]
      rw [List.length_map, ← List.map_take] at hm
      have hd : decide (n.toNat < (rowsV (fun k => hpB k p) Ver.id (os.map oP) sk si).length) = decide (n < ((rowsV (fun k => hpB k p) Ver.id (os.map oP) sk si).length : Int)) := decide_eq_decide.2 (by omega)
      rw [hd, resV_ob] at hm
      refine ret_resV (x := (((rowsV (fun k => hpB k p) Ver.id (os.map oP) sk si).take n.toNat).map rowVP, decide (n < ((rowsV (fun k => hpB k p) Ver.id (os.map oP) sk si).length : Int)))) (ret_goes (Γ := Γ mx) hP hZ W13_ok (by kernel_rfl) ⟨m, ?_⟩)
      rw [w13, decide_eq_false h1, decide_eq_false h2, cond_false, cond_false]
      exact hm
theorem c14' (b : D) (p : Tx) (s : D) (n : Int) (hb : bkS b = true) (hs : isSp s = true) : RetX (Γ mx) 14 [.d 32 b, .s p, .d 43 s, .i .i64 n] [] (.tuple [.sl 54 .any (vyL rowVR b p s n), .b (vyM b p s n), .i .i64 (pgE n)]) [] := by
  obtain ⟨hb, ht⟩ := bkS_eq hb
  obtain ⟨nm, md, dy, c1, rs, c2, gs, c3, os, c4, us, rfl, k1, k2, k3, k4, k5, k6⟩ := bkC_ex hb
  obtain ⟨sa, sk, si, rfl⟩ := isSp_ex hs
  by_cases h1 : n < 1
  · have e := pgE_lo h1
    unfold vyL vyM
    rw [e]
    refine ret_nil (e := 54) (ret_goes (Γ := Γ mx) hP hZ W14_ok (by kernel_rfl) ⟨0, ?_⟩)
    rw [w14, decide_eq_true h1]; rfl
  · by_cases h2 : n > 100
    · have e := pgE_hi h2
      unfold vyL vyM
      rw [e]
      refine ret_nil (e := 54) (ret_goes (Γ := Γ mx) hP hZ W14_ok (by kernel_rfl) ⟨0, ?_⟩)
      rw [w14, decide_eq_false h1, decide_eq_true h2]; rfl
    · have e := pgE_ok (show 1 ≤ n by omega) (show n ≤ 100 by omega)
      have ht : totV os ≤ 4096 := ht
      obtain ⟨m, hm⟩ := g14_5 (mx := mx) (p := p) (sb := sa) (sk := sk) (si := si) (nm := nm) (md := md) (dy := dy) (c1 := c1) (c2 := c2) (c3 := c3) (c4 := c4) (rs := rs) (gs := gs) (us := us) (os := os) (n := n) (by omega) k4 k5 os [] [] 0 rfl rfl (by simp; omega)
      rw [List.nil_append, show os.flatMap (objRowsR p sk si) = (rowsV (fun k => hpB k p) Ver.id (os.map oP) sk si).map rowVR from flat_rows rowVR p sk si os] at hm
      have hv : vRows (D.agg [D.str nm, D.agg [D.int .i64 md, D.int .i64 dy], D.slice c1 rs, D.slice c2 gs, D.slice c3 os, D.slice c4 us]) p (D.agg [D.str sa, D.str sk, D.int .u64 si]) = rowsV (fun k => hpB k p) Ver.id (os.map oP) sk si := rfl
      unfold vyL vyM
      rw [e, hv]
      unfold resR at hm
      rw [List.length_map, ← List.map_take] at hm
      refine ret_goes (Γ := Γ mx) hP hZ W14_ok (by kernel_rfl) ⟨m, ?_⟩
      rw [w14, decide_eq_false h1, decide_eq_false h2, cond_false, cond_false]
      exact hm
theorem spVyP_ok : SpecOK (Γ mx) ⟨13, dat (spVy rowVP)⟩ := dat_ok fun args r hr => by
  unfold spVy at hr
  split at hr
  · simp only [Option.some.injEq, Prod.mk.injEq, Bool.and_eq_true] at hr
    obtain ⟨⟨h1, h2⟩, rfl⟩ := hr
    exact c13' _ _ _ _ h1 h2
  · exact absurd hr (by simp)
theorem spVyR_ok : SpecOK (Γ mx) ⟨14, dat (spVy rowVR)⟩ := dat_ok fun args r hr => by
  unfold spVy at hr
  split at hr
  · simp only [Option.some.injEq, Prod.mk.injEq, Bool.and_eq_true] at hr
    obtain ⟨⟨h1, h2⟩, rfl⟩ := hr
    exact c14' _ _ _ _ h1 h2
  · exact absurd hr (by simp)
/-! ### the first bucket, in what is known of it -/
theorem okOs_tot : ∀ (os : List D) (o : Option Tx) (n : Int), n ≤ 256 → okOs o n os = true → n + (totV os : Int) ≤ 256
  | [], o, n, h, _ => by simp [totV]; omega
  | y :: r, o, n, h, hk => by
    unfold okOs at hk
    simp only [Bool.and_eq_true, decide_eq_true_eq] at hk
    have := okOs_tot r _ _ hk.2.2.1 hk.2.2.2
    simp only [totV]
    omega
theorem fir_ok {s : D} (hs : stC s = true) (hf : firB mx s = true) : ∃ y r, stL s = y :: r ∧ firD mx s = y ∧ bkC y = true ∧ okOs none 0 (bObj y) = true := by
  have hf0 := hf
  unfold firB at hf
  simp only [Bool.and_eq_true] at hf
  have hq := snd_ok hs hf.1
  obtain ⟨m, n, b, c, l, rfl, hl⟩ := stC_ex hs
  cases l with
  | nil => exact absurd hf.2 (by simp [stL])
  | cons y r =>
    refine ⟨y, r, rfl, ?_, List.all_eq_true.1 hl y (by simp), hq⟩
    unfold firD
    rw [hf0]; rfl
theorem fir_bkS {y : D} (h1 : bkC y = true) (h2 : okOs none 0 (bObj y) = true) : bkS y = true := by
  have := okOs_tot _ _ _ (by omega) h2
  unfold bkS
  rw [h1, decide_eq_true (by omega)]; rfl
theorem bObj_all {y : D} (h : bkC y = true) : (bObj y).all oC = true ∧ (bObj y).length ≤ 8388608 := by
  obtain ⟨nm, md, dy, c1, rs, c2, gs, c3, os, c4, us, rfl, _, _, _, k4, k5, _⟩ := bkC_ex h
  exact ⟨k4, k5⟩
theorem vs_mem {o : D} (h : oC o = true) {v : Ver} (hv : v ∈ vsOf (oVs o)) : vC (vD v) = true := by
  obtain ⟨k, c, l, rfl, _, hl⟩ := oC_ex h
  obtain ⟨_, ha⟩ := vsC_eq hl
  obtain ⟨vl, rfl, hvo⟩ := vs_ex ha
  have hv : v ∈ vsOf (vl.map vD) := hv
  rw [hvo] at hv
  exact List.all_eq_true.1 ha _ (List.mem_map.2 ⟨v, hv, rfl⟩)
theorem vRows_mem {b : D} {p : Tx} {s : D} {r : Vr Ver} (hb : bkC b = true) (hr : r ∈ vRows b p s) : vC (vD r.2.1) = true ∧ ∃ o ∈ bObj b, r.1 = oKey o := by
  unfold vRows rowsV at hr
  obtain ⟨q, hq, hr⟩ := List.mem_flatMap.1 hr
  obtain ⟨o, ho, rfl⟩ := List.mem_map.1 hq
  have hr : r ∈ (bif hpB (oKey o) p then (revRows (oKey o) (vsOf (oVs o))).filter (fun r => keepR (spK s) (spI s) r.1 r.2.1.id) else []) := hr
  cases hp : hpB (oKey o) p with
  | false => rw [hp] at hr; simp at hr
  | true =>
    rw [hp] at hr
    obtain ⟨h1, h2⟩ := mem_rev (List.mem_filter.1 hr).1
    exact ⟨vs_mem (List.all_eq_true.1 (bObj_all hb).1 o ho) h2, o, ho, h1⟩
theorem rw1_VP {r : Vr Ver} (h : vC (vD r.2.1) = true) : rw1 (rowVP r) = true ∧ rw1 (rowVR r) = true := ⟨h, h⟩
theorem okV_of {v : Ver} (h : vC (vD v) = true) : okV v := by
  have := vC_dg h
  unfold dgC at this
  simp only [Bool.and_eq_true] at this
  exact this.2
theorem rwC_rows {f : Vr Ver → D} {b : D} {p : Tx} {s : D} {n : Int} (hb : bkC b = true) (hf : ∀ r, vC (vD r.2.1) = true → rw1 (f r) = true) : rwC (vyL f b p s n) = true := by
  unfold vyL
  cases he : pgE n == 0 with
  | false => rfl
  | true =>
    rw [cond_true]
    have hn : n.toNat ≤ 100 := by
      have := eq_of_beq he
      by_cases h2 : n > 100
      · rw [pgE_hi h2] at this; exact absurd this (by decide)
      · omega
    unfold rwC
    rw [decide_eq_true (by rw [List.length_map, List.length_take]; omega), Bool.true_and]
    refine List.all_eq_true.2 fun d hd => ?_
    obtain ⟨r, hr, rfl⟩ := List.mem_map.1 hd
    exact hf r (vRows_mem hb (List.mem_of_mem_take hr)).1
theorem vy_same {b : D} {p : Tx} {s : D} {n : Int} (hb : bkC b = true) : rowsS (vyL rowVP b p s n) (vyL rowVR b p s n) = true := by
  unfold vyL
  cases pgE n == 0 with
  | false => rfl
  | true => exact page_same _ fun r hr => (rowS_ver (okV_of (vRows_mem hb hr).1)).1
end Go.Proofs.Ytapaenfafjmljaa.V

/- Lists: awake, a closed run. -/
namespace Go.Proofs.Ytapaenfafjmljaa.V
open Go
set_option maxRecDepth 100000
set_option linter.unusedVariables false
set_option linter.unusedSimpArgs false
variable {mx : Int}
def cutG (s p : List UInt8) : AV := .tuple [.s (Lib.cut s p).1, .s (Lib.cut s p).2.1, .b (Lib.cut s p).2.2]
theorem cutG_ret (s p : List UInt8) (h : s32 s = true) : RetX (Γ mx) 40 [.s s, .s p] [] (cutG s p) [] := by
  refine ret_shelfN (by kernel_rfl) fun w S vals hS hG ha => ?_
  simp only [RepAs, RepA] at ha
  obtain ⟨v, _, rfl, ⟨s, rfl, rfl⟩, v', _, rfl, ⟨p, rfl, rfl⟩, rfl⟩ := ha
  refine (Any.strings_Cut Lt.lays145 s p mx w (by simpa [s32] using h) (max_cell hG)).mono ?_
  rintro e w' ⟨rfl, n, rfl⟩
  refine ⟨_, rfl, below_drewN n, S, fun _ h => h, fun _ h => .inl h, ?_⟩
  simp only [cutG, RepA, RepAs]
  exact ⟨_, rfl, _, _, rfl, ⟨_, rfl, rfl⟩, _, _, rfl, ⟨_, rfl, rfl⟩, _, _, rfl, rfl, rfl⟩
def spCutG : List AV → Option (Bool × AV)
  | [.s s, .s p] => some (s32 s, cutG s p)
  | _ => none
theorem spCutG_ok : SpecOK (Γ mx) ⟨40, dat spCutG⟩ := dat_ok fun args r hr => by
  unfold spCutG at hr
  split at hr
  · simp only [Option.some.injEq, Prod.mk.injEq] at hr
    obtain ⟨h1, rfl⟩ := hr
    exact cutG_ret _ _ h1
  · exact absurd hr (by simp)
def HA : Handle := runS [⟨40, dat spCutG⟩, ⟨38, dat (spD1 52 vC fun v => .d 52 (cloneD v))⟩]
theorem hA_ok : CallsOK (Γ mx) HA := specs_ok (.cons spCutG_ok (.cons (spD1_ok c127) .nil))
theorem awake_run : callN (Γ mx) HA 60 9 [] [] = some (true, .b true, []) := by kernel_rfl
theorem c9' (_ : true = true) : RetX (Γ mx) 9 [] [] (.b true) [] := ret_run hP hZ hN hA_ok awake_run
end Go.Proofs.Ytapaenfafjmljaa.V

/- Lists: the law ListVersions. -/
namespace Go.Proofs.Ytapaenfafjmljaa.V
open Go
set_option maxRecDepth 100000
set_option linter.unusedVariables false
set_option linter.unusedSimpArgs false
variable {mx : Int}
theorem W4_ok : CallsOK (Γ mx) (W4 mx) := specs_ok (.cons (sp0_ok c9') (.cons (spD1_ok c8') (.cons spVyP_ok (.cons spVyR_ok (.cons (spLL_ok c12') .nil)))))
theorem law4 (s : D) (p : Tx) (q : D) (n : Int) (hs : stC s = true) (hq : isSp q = true) : RetX (Γ mx) 4 [.d 24 s, .s p, .d 43 q, .i .i64 n] [] (.b true) [] := by
  have hs0 := hs
  obtain ⟨m, sn, sb, sc, sl, rfl, hl⟩ := stC_ex hs
  obtain ⟨qa, qk, qi, rfl⟩ := isSp_ex hq
  have : EXR (.b true, []) fun k => evF (Γ mx) (W4 mx) (L (Γ mx) (W4 mx) 4 k) 4 [.d 24 (D.agg [D.int .i64 m, D.int .u64 sn, D.int .u64 sb, D.slice sc sl]), .s p, .d 43 (D.agg [D.str qa, D.str qk, D.int .u64 qi]), .i .i64 n] [] := by
    refine er_of (fun k => w4 _ m sn sb sc sl p qa qk qi n) ?_
    refine er_t hs0 ?_
    cases hf : firB mx (D.agg [D.int .i64 m, D.int .u64 sn, D.int .u64 sb, D.slice sc sl]) with
    | false =>
      have hD : firD mx (D.agg [D.int .i64 m, D.int .u64 sn, D.int .u64 sb, D.slice sc sl]) = D.agg [D.str [], D.agg [D.int .i64 0, D.int .i64 0], D.slice .nl [], D.slice .nl [], D.slice .nl [], D.slice .nl []] := by
        unfold firD; rw [hf]; rfl
      rw [hD]
      exact er_agg (er_lc (er_s (er_lc (er_agg (er_lc (er_i (er_lc (er_i (er_ln (er_lc (er_sl (er_lc (er_sl (er_lc (er_sl (er_lc (er_sl (er_ln (er_t rfl er_some)))))))))))))))))))
    | true =>
      obtain ⟨y, r, hy1, hD, hbk, hok⟩ := fir_ok hs0 hf
      have hS := fir_bkS hbk hok
      rw [hD]
      obtain ⟨nm, md, dy, c1, rs, c2, gs, c3, os, c4, us, rfl, _⟩ := bkC_ex hbk
      refine er_agg (er_lc (er_s (er_lc (er_agg (er_lc (er_i (er_lc (er_i (er_ln (er_lc (er_sl (er_lc (er_sl (er_lc (er_sl (er_lc (er_sl (er_ln (er_f rfl ?_)))))))))))))))))))
      have hc : (bkS (D.agg [D.str nm, D.agg [D.int .i64 md, D.int .i64 dy], D.slice c1 rs, D.slice c2 gs, D.slice c3 os, D.slice c4 us]) && isSp (D.agg [D.str qa, D.str qk, D.int .u64 qi])) = true := by rw [hS]; rfl
      refine er_t hc (er_t hc (er_t (beq_self_eq_true _) (er_t (beq_self_eq_true _) (er_t ?_ ?_))))
      · rw [rwC_rows hbk fun r h => (rw1_VP h).1, rwC_rows hbk fun r h => (rw1_VP h).2]; rfl
      · rw [vy_same hbk]; exact er_some
  obtain ⟨k, hk⟩ := this
  exact ret_goes (Γ := Γ mx) hP hZ W4_ok (by kernel_rfl) ⟨k, hk⟩
end Go.Proofs.Ytapaenfafjmljaa.V

/- Lists: what is known of a sound bucket's rows: they are in order; how many there are. -/
namespace Go.Proofs.Ytapaenfafjmljaa.V
open Go
set_option maxRecDepth 100000
set_option linter.unusedVariables false
set_option linter.unusedSimpArgs false
variable {mx : Int}
theorem ris_asc : ∀ {vl : List Ver} {o : Option Ver}, ris1 o vl = true → (∀ p, o = some p → ∀ v ∈ vl, p.id < v.id) ∧ vl.Pairwise fun a b => a.id < b.id
  | [], o, _ => ⟨fun _ _ v hv => absurd hv (by simp), List.Pairwise.nil⟩
  | v :: r, none, h => by
    simp only [ris1, Bool.and_eq_true] at h
    obtain ⟨h1, h2⟩ := ris_asc h.2
    exact ⟨fun p hp => absurd hp (by simp), List.pairwise_cons.2 ⟨h1 v rfl, h2⟩⟩
  | v :: r, some p, h => by
    simp only [ris1, Bool.and_eq_true] at h
    obtain ⟨h1, h2⟩ := ris_asc h.2.2
    have hb := h.2.1
    unfold behV at hb
    simp only [Bool.and_eq_true, decide_eq_true_eq] at hb
    refine ⟨fun p' hp => ?_, List.pairwise_cons.2 ⟨h1 v rfl, h2⟩⟩
    cases hp
    intro x hx
    rcases List.mem_cons.1 hx with rfl | hx
    · omega
    · have := h1 v rfl x hx; omega
theorem snd_asc {o : D} (h : oSnd o = true) : (oP o).1 ≠ [] ∧ (oP o).2.Pairwise fun a b => a.id < b.id := by
  unfold oSnd at h
  simp only [Bool.and_eq_true] at h
  refine ⟨?_, (ris_asc h.2.2).2⟩
  have := h.1
  unfold keyB at this
  simp only [Bool.and_eq_true, Bool.not_eq_true', beq_eq_false_iff_ne] at this
  exact this.1
theorem ok_asc : ∀ {os : List D} {o : Option Tx} {n : Int}, okOs o n os = true → (∀ p, o = some p → ∀ y ∈ os, lessB p (oKey y) = true) ∧ (os.map oP).Pairwise (fun a b => lessB a.1 b.1 = true) ∧ ∀ y ∈ os, oSnd y = true
  | [], o, n, _ => ⟨fun _ _ y hy => by simp at hy, List.Pairwise.nil, fun y hy => by simp at hy⟩
  | y :: r, o, n, h => by
    unfold okOs at h
    simp only [Bool.and_eq_true] at h
    obtain ⟨h1, h2, h3⟩ := ok_asc h.2.2.2
    refine ⟨fun p hp => ?_, ?_, ?_⟩
    · subst hp
      have hl : lessB p (oKey y) = true := h.2.1
      intro z hz
      rcases List.mem_cons.1 hz with rfl | hz
      · exact hl
      · exact lessB_trans hl (h1 _ rfl z hz)
    · rw [List.map_cons, List.pairwise_cons]
      refine ⟨fun q hq => ?_, h2⟩
      obtain ⟨z, hz, rfl⟩ := List.mem_map.1 hq
      exact h1 _ rfl z hz
    · intro z hz
      rcases List.mem_cons.1 hz with rfl | hz
      · exact h.1
      · exact h3 z hz
theorem rev_len (k : Tx) (vs : List Ver) : (revRows k vs).length = vs.length := by
  unfold revRows
  have := vs.length_reverse
  revert this
  cases vs.reverse with
  | nil => intro h; simp at h; simp [h]
  | cons v t => intro h; simp at h ⊢; omega
theorem vs_len {l : List D} (h : l.all vC = true) : (vsOf l).length = l.length := by
  obtain ⟨vl, rfl, hv⟩ := vs_ex h
  rw [hv, List.length_map]
theorem rowsV_len (pre : Tx → Bool) (fk : Tx) (fi : Int) : ∀ {os : List D}, os.all oC = true → (rowsV pre Ver.id (os.map oP) fk fi).length ≤ totV os
  | [], _ => Nat.le_refl _
  | o :: os, h => by
    have h : oC o = true ∧ os.all oC = true := by simpa using h
    have ih := rowsV_len pre fk fi h.2
    obtain ⟨k, c, l, rfl, _, hl⟩ := oC_ex h.1
    have hv := vs_len (vsC_eq hl).2
    unfold rowsV at ih ⊢
    rw [List.map_cons, List.flatMap_cons, List.length_append, totV]
    have : (bif pre (oP (D.agg [.str k, .slice c l])).1 then (revRows (oP (D.agg [.str k, .slice c l])).1 (oP (D.agg [.str k, .slice c l])).2).filter fun r => keepR fk fi r.1 (Ver.id r.2.1) else []).length ≤ l.length := by
      cases pre (oP (D.agg [.str k, .slice c l])).1 with
      | false => simp
      | true =>
        rw [cond_true]
        refine Nat.le_trans (List.length_filter_le _ _) ?_
        rw [rev_len]
        exact Nat.le_of_eq hv
    have e : (oVs (D.agg [.str k, .slice c l])).length = l.length := rfl
    omega
/-- behind a row: the rest -/
theorem vRows_next {b : D} {p : Tx} {j : Nat} {x : Vr Ver} {sa sb : Tx} (hok : okOs none 0 (bObj b) = true) (h : (vRows b p (D.agg [.str sa, .str [], .int .u64 0]))[j]? = some x) :
    vRows b p (D.agg [.str sb, .str x.1, .int .u64 x.2.1.id]) = (vRows b p (D.agg [.str sa, .str [], .int .u64 0])).drop (j + 1) := by
  obtain ⟨_, h2, h3⟩ := ok_asc hok
  have hx : x.1 ≠ [] := by
    obtain ⟨q, hq, hr⟩ := List.mem_flatMap.1 (show x ∈ rowsV (fun k => hpB k p) Ver.id ((bObj b).map oP) [] 0 from List.mem_of_getElem? h)
    obtain ⟨o, ho, rfl⟩ := List.mem_map.1 hq
    have hr : x ∈ (bif hpB (oP o).1 p then (revRows (oP o).1 (oP o).2).filter (fun r => keepR [] 0 r.1 r.2.1.id) else []) := hr
    cases hp : hpB (oP o).1 p with
    | false => rw [hp] at hr; simp at hr
    | true =>
      rw [hp] at hr
      rw [(mem_rev (List.mem_filter.1 hr).1).1]
      exact (snd_asc (h3 o ho)).1
  exact versions_drop (fun k => hpB k p) Ver.id h2 (fun q hq => by
    obtain ⟨o, ho, rfl⟩ := List.mem_map.1 hq
    exact (snd_asc (h3 o ho)).2) h hx
/-- rows held against rows, of which the first may be none at all -/
def spSm : List AV → Option (Bool × AV)
  | [.snil, .sl s _ y] => some (Nat.beq s 54 && (rwC [] && rwC y), .b (rowsS [] y))
  | [.sl t _ x, .sl s _ y] => some (Nat.beq t 54 && (Nat.beq s 54 && (rwC x && rwC y)), .b (rowsS x y))
  | _ => none
theorem spSm_ok : SpecOK (Γ mx) ⟨12, dat spSm⟩ := dat_ok fun args r hr => by
  unfold spSm at hr
  split at hr
  · simp only [Option.some.injEq, Prod.mk.injEq] at hr
    obtain ⟨h0, rfl⟩ := hr
    rw [Bool.and_eq_true] at h0
    obtain rfl := beq_id h0.1
    exact (c12' [] _ h0.2).args (.cons (WkA.nil 54) (.cons (WkA.sl _ _ _) .nil))
  · simp only [Option.some.injEq, Prod.mk.injEq] at hr
    obtain ⟨h0, rfl⟩ := hr
    rw [Bool.and_eq_true, Bool.and_eq_true] at h0
    obtain rfl := beq_id h0.1
    obtain rfl := beq_id h0.2.1
    exact (c12' _ _ h0.2.2).args (.cons (WkA.sl _ _ _) (.cons (WkA.sl _ _ _) .nil))
  · exact absurd hr (by simp)
end Go.Proofs.Ytapaenfafjmljaa.V

/- RulesTexts, RulesBack: first pieces: rules held against each other; the document's number. The equations are written by program. -/
namespace Go.Proofs.Ytapaenfafjmljaa.V
open Go
set_option maxRecDepth 100000
set_option linter.unusedVariables false
set_option linter.unusedSimpArgs false
variable {mx : Int}
def Q13 : Handle := runS [⟨41, dat (spLL 82 82 (fun a b => tC a && tC b) fun a b => .b (sameT a b))⟩]
/-- a number of 1 to 5 digits, as the document reads it -/
def nmN : List UInt8 → Int → Int
  | [], n => n
  | c :: r, n => bif decide (c.toNat < 48) then -1 else bif decide (c.toNat > 57) then -1 else nmN r (n * 10 + ((c.toNat : Int) - 48))
def nmR (s : List UInt8) : Int := bif decide (s.length < 1) then -1 else bif decide (s.length > 5) then -1 else bif decide (s.length > 1) && (match s with | c :: _ => decide (c = 48) | [] => false) then -1 else nmN s 0
theorem is48 (c : UInt8) : ((c.toNat : Int) == 48) = decide (c = 48) := by
  by_cases h : c = 48
  · subst h; rfl
  · rw [decide_eq_false h]
    refine beq_eq_false_iff_ne.2 fun e => h ?_
    have : c.toNat = (48 : UInt8).toNat := by have : (48 : UInt8).toNat = 48 := rfl; omega
    exact UInt8.toNat_inj.1 this
/-- a rule held against another -/
def sameR (x y : D) : Bool := (rPre x == rPre y) && (sameT (rTg x) (rTg y) && ((rDays x == rDays y) && ((rOld x == rOld y) && (rMk x == rMk y))))
theorem kh13_ok : CallsOK (Γ mx) Q13 := specs_ok (.cons (spLL_ok c25) .nil)
/-! ### a prefix cut -/
def cpS (s p : List UInt8) : List UInt8 := bif hpB s p then s.drop p.length else s
def Q64 : Handle := runS [⟨37, dat (sp2 (fun _ _ => true) fun a b => .b (hpB a b))⟩]
theorem q64 (lab : Lab) (s : List UInt8) (p : List UInt8) : evF (Γ mx) Q64 lab 52 [.s s, .s p] [] =
  bif !(hpB s p) then (some (.tuple [.s s, .b false], [])) else (bif decide ((0:Int) ≤ ((List.length p : Int))) && decide (((List.length p : Int)) ≤ (List.length s : Int)) then (some (.tuple [.s (List.take ((List.length s) - (Int.toNat ((List.length p : Int)))) (List.drop (Int.toNat ((List.length p : Int))) s)), .b true], [])) else none) := by kernel_rfl
def Q31 : Handle := runS [⟨52, dat (sp2 (fun _ _ => true) fun a b => .tuple [.s (cpS a b), .b (hpB a b)])⟩]
theorem q31 (lab : Lab) (s : List UInt8) (p : List UInt8) : evF (Γ mx) Q31 lab 39 [.s s, .s p] [] =
  some (.tuple [.s (cpS s p), .b (hpB s p)], []) := by kernel_rfl
theorem k79 (a b : List UInt8) (h : true = true) : RetX (Γ mx) 37 [.s a, .s b] [] (.b (hpB a b)) [] := c128 a b h
theorem kh64_ok : CallsOK (Γ mx) Q64 := specs_ok (.cons (sp2_ok k79) .nil)
theorem k64 (a b : List UInt8) (_ : true = true) : RetX (Γ mx) 52 [.s a, .s b] [] (.tuple [.s (cpS a b), .b (hpB a b)]) [] := by
  refine ret_goes (Γ := Γ mx) hP hZ kh64_ok (by kernel_rfl) ⟨0, ?_⟩
  rw [q64, cpS]
  cases hp : hpB a b with
  | false => rfl
  | true =>
    have hl : b.length ≤ a.length := by unfold hpB at hp; simp only [Bool.and_eq_true, decide_eq_true_eq] at hp; exact hp.1
    rw [decide_eq_true (show (0 : Int) ≤ (b.length : Int) by omega), decide_eq_true (show (b.length : Int) ≤ (a.length : Int) by omega)]
    show some (AV.tuple [.s (List.take (a.length - Int.toNat (b.length : Int)) (List.drop (Int.toNat (b.length : Int)) a)), .b true], ([] : Objs)) = some (AV.tuple [.s (a.drop b.length), .b true], [])
    rw [Int.toNat_natCast, List.take_of_length_le (by rw [List.length_drop]; exact Nat.le_refl _)]
theorem kh31_ok : CallsOK (Γ mx) Q31 := specs_ok (.cons (sp2_ok k64) .nil)
theorem k31 (a b : List UInt8) (_ : true = true) : RetX (Γ mx) 39 [.s a, .s b] [] (.tuple [.s (cpS a b), .b (hpB a b)]) [] := ret_goes (Γ := Γ mx) hP hZ kh31_ok (by kernel_rfl) ⟨0, by rw [q31]⟩
end Go.Proofs.Ytapaenfafjmljaa.V

/- Lists: what the machine over values makes of functions (24, 21): equations, written by program. -/
namespace Go.Proofs.Ytapaenfafjmljaa.V
open Go
set_option maxRecDepth 100000
set_option linter.unusedVariables false
set_option linter.unusedSimpArgs false
variable {mx : Int}
/-- a bucket of few versions, each key with some -/
def bkK (b : D) : Bool := bkS b && (bObj b).all fun o => decide (0 < (oVs o).length)
def kRowsD (b : D) (p m a : Tx) : List (Rw Ver) := da [] (((bObj b).map kvO).filterMap (cand (kitV p m) a))
def kyA (R : List (Rw Ver)) (f : Rw Ver → D) (n : Int) : List D := bif pgE n == 0 then (R.take n.toNat).map f else []
def kyN (R : List (Rw Ver)) (n : Int) : Bool := pgE n == 0 && decide (n < (R.length : Int))
def spKz (rows : D → Tx → Tx → Tx → List (Rw Ver)) (f : Rw Ver → D) : List AV → Option (Bool × AV)
  | [.d 32 b, .s p, .s m, .s a, .i .i64 n] => some (bkK b && gC p m a, .tuple [.sl 54 .any (kyA (rows b p m a) f n), .b (kyN (rows b p m a) n), .i .i64 (pgE n)])
  | _ => none
def far8 : Tx := [244, 143, 191, 191, 244, 143, 191, 191]
/-- is there a key of a group that is not below its last signs? -/
def farB (b : D) (g : Tx) : Bool := (bObj b).any fun o => hpB (oKey o) g && !lessB (oKey o) (g ++ far8)
def spFar : List AV → Option (Bool × AV)
  | [.d 32 b, .s g] => some (bkK b && short g, .b (farB b g))
  | _ => none
def W24 : Handle := runS [⟨23, dat (sp2 (fun _ _ => true) fun a b => .b (hpB a b))⟩]
theorem w24 (lab : Lab) (k : List UInt8) (p : List UInt8) (m : List UInt8) : evF (Γ mx) W24 lab 24 [.s k, .s p, .s m] [] =
  bif m == ([] : List UInt8) then (some (.tuple [.s ([] : List UInt8), .b false], [])) else (bif !(hpB k p) then (some (.tuple [.s ([] : List UInt8), .b false], [])) else (lab (todoAt (Γ mx) 24 4) ⟨[(0, .s k), (2, .s m), (8, .i .i64 ((List.length p : Int)))], []⟩)) := by kernel_rfl
theorem w24_4a (lab : Lab) (s1 : List UInt8) (s2 : List UInt8) (n3 : Int) : evL (Γ mx) W24 lab 24 4 ⟨[(0, .s s1), (2, .s s2), (8, .i .i64 n3)], []⟩ =
  bif decide (n3 < ((List.length s1 : Int))) then (bif decide ((0:Int) ≤ n3) && decide (n3 ≤ (List.length s1 : Int)) then (bif hpB (List.take ((List.length s1) - (Int.toNat n3)) (List.drop (Int.toNat n3) s1)) s2 then (bif decide ((0:Int) ≤ n3) && decide (n3 ≤ (List.length s1 : Int)) then (bif decide (List.length (List.take ((Int.toNat n3) - 0) (List.drop 0 s1)) + List.length s2 ≤ maxStr) then (some (.tuple [.s ((List.take ((Int.toNat n3) - 0) (List.drop 0 s1)) ++ s2), .b true], [])) else none) else none) else (lab (todoAt (Γ mx) 24 4) ⟨[(0, .s s1), (2, .s s2), (8, .i .i64 (IntKind.wrap .i64 (n3 + 1)))], []⟩)) else none) else (some (.tuple [.s ([] : List UInt8), .b false], [])) := by kernel_rfl
def W21 : Handle := runS [⟨39, dat (sp2 (fun _ _ => true) fun a b => .tuple [.s (cpS a b), .b (hpB a b)])⟩, ⟨40, dat spCutG⟩]
theorem w21 (lab : Lab) (k : List UInt8) (p : List UInt8) (m : List UInt8) : evF (Γ mx) W21 lab 21 [.s k, .s p, .s m] [] =
  bif !(hpB k p) then (some (.tuple [.s ([] : List UInt8), .b false], [])) else (bif m == ([] : List UInt8) then (some (.tuple [.s ([] : List UInt8), .b false], [])) else (bif s32 ((cpS k p)) then (bif !((Lib.cut ((cpS k p)) m).2.2) then (some (.tuple [.s ([] : List UInt8), .b false], [])) else (bif decide (List.length p + List.length ((Lib.cut ((cpS k p)) m).1) ≤ maxStr) then (bif decide (List.length (p ++ ((Lib.cut ((cpS k p)) m).1)) + List.length m ≤ maxStr) then (some (.tuple [.s ((p ++ ((Lib.cut ((cpS k p)) m).1)) ++ m), .b true], [])) else none) else none)) else none)) := by kernel_rfl
end Go.Proofs.Ytapaenfafjmljaa.V

/- Lists: what the machine over values makes of functions (15, 5): equations, written by program. -/
namespace Go.Proofs.Ytapaenfafjmljaa.V
open Go
set_option maxRecDepth 100000
set_option linter.unusedVariables false
set_option linter.unusedSimpArgs false
variable {mx : Int}
theorem w15 (lab : Lab) (bn : List UInt8) (bm : Int) (bd : Int) (brc : Cp) (brs : List D) (bgc : Cp) (bgs : List D) (boc : Cp) (bos : List D) (buc : Cp) (bus : List D) (g : List UInt8) : evF (Γ mx) (runS []) lab 15 [.d 32 (D.agg [D.str bn, D.agg [D.int .i64 bm, D.int .i64 bd], D.slice brc brs, D.slice bgc bgs, D.slice boc bos, D.slice buc bus]), .s g] [] =
  lab (todoAt (Γ mx) 15 2) ⟨[(1, .s g), (2, .ptr 0 [] 32), (5, .i .i64 0)], [some (.box 32 (.d 32 (D.agg [D.str bn, D.agg [D.int .i64 bm, D.int .i64 bd], D.slice brc brs, D.slice bgc bgs, D.slice boc bos, D.slice buc bus])))]⟩ := by kernel_rfl
theorem w15_2a (lab : Lab) (s1 : List UInt8) (n2 : Int) (s3 : List UInt8) (n4 : Int) (n5 : Int) (c6 : Cp) (l7 : List D) (c8 : Cp) (l9 : List D) (c10 : Cp) (l11 : List D) (c12 : Cp) (l13 : List D) : evL (Γ mx) (runS []) lab 15 2 ⟨[(1, .s s1), (2, .ptr 0 [] 32), (5, .i .i64 n2)], [some (.box 32 (.d 32 (D.agg [D.str s3, D.agg [D.int .i64 n4, D.int .i64 n5], D.slice c6 l7, D.slice c8 l9, D.slice c10 l11, D.slice c12 l13])))]⟩ =
  bif decide (n2 < ((l11.length : Int))) then (idx l11 n2 fun y14 => dAgg y14 fun y15 => lGet y15 0 fun y16 => dStr y16 fun s17 => bif decide (((List.length s17 : Int)) ≥ ((List.length s1 : Int))) then (bif decide ((0:Int) ≤ ((List.length s1 : Int))) && decide (((List.length s1 : Int)) ≤ (List.length s17 : Int)) then (bif (List.take ((Int.toNat ((List.length s1 : Int))) - 0) (List.drop 0 s17)) == s1 then (bif decide (List.length s1 + List.length ([244, 143, 191, 191, 244, 143, 191, 191] : List UInt8) ≤ maxStr) then (bif !lessB s17 (s1 ++ ([244, 143, 191, 191, 244, 143, 191, 191] : List UInt8)) then (some (.b true, [])) else (lab (todoAt (Γ mx) 15 2) ⟨[(1, .s s1), (2, .ptr 0 [] 32), (5, .i .i64 (IntKind.wrap .i64 (n2 + 1)))], [some (.box 32 (.d 32 (D.agg [D.str s3, D.agg [D.int .i64 n4, D.int .i64 n5], D.slice c6 l7, D.slice c8 l9, D.slice c10 l11, D.slice c12 l13])))]⟩)) else none) else (lab (todoAt (Γ mx) 15 2) ⟨[(1, .s s1), (2, .ptr 0 [] 32), (5, .i .i64 (IntKind.wrap .i64 (n2 + 1)))], [some (.box 32 (.d 32 (D.agg [D.str s3, D.agg [D.int .i64 n4, D.int .i64 n5], D.slice c6 l7, D.slice c8 l9, D.slice c10 l11, D.slice c12 l13])))]⟩)) else none) else (lab (todoAt (Γ mx) 15 2) ⟨[(1, .s s1), (2, .ptr 0 [] 32), (5, .i .i64 (IntKind.wrap .i64 (n2 + 1)))], [some (.box 32 (.d 32 (D.agg [D.str s3, D.agg [D.int .i64 n4, D.int .i64 n5], D.slice c6 l7, D.slice c8 l9, D.slice c10 l11, D.slice c12 l13])))]⟩)) else (some (.b false, [])) := by kernel_rfl
noncomputable def W5 (mx : Int) : Handle := runS [⟨9, dat (sp0 true (.b true))⟩, ⟨8, dat (spD1 24 stC fun s => .tuple [.d 32 (firD mx s), .b (firB mx s)])⟩, ⟨10, dat (spKz kRows rowP)⟩, ⟨15, dat spFar⟩, ⟨12, dat spSm⟩]
theorem w5 (lab : Lab) (sm : Int) (sn : Int) (sb : Int) (sc : Cp) (sl : List D) (p : List UInt8) (m : List UInt8) (q : Int) : evF (Γ mx) (W5 mx) lab 5 [.d 24 (D.agg [D.int .i64 sm, D.int .u64 sn, D.int .u64 sb, D.slice sc sl]), .s p, .s m, .i .u8 q] [] =
  bif stC (D.agg [D.int .i64 sm, D.int .u64 sn, D.int .u64 sb, D.slice sc sl]) then (dAgg ((firD mx (D.agg [D.int .i64 sm, D.int .u64 sn, D.int .u64 sb, D.slice sc sl]))) fun y1 => lCons y1 fun a2 r3 => dStr a2 fun s4 => lCons r3 fun a5 r6 => dAgg a5 fun y7 => lCons y7 fun a8 r9 => dInt .i64 a8 fun n10 => lCons r9 fun a11 r12 => dInt .i64 a11 fun n13 => lNil r12 (lCons r6 fun a14 r15 => dSlice a14 fun c16 l17 => lCons r15 fun a18 r19 => dSlice a18 fun c20 l21 => lCons r19 fun a22 r23 => dSlice a22 fun c24 l25 => lCons r23 fun a26 r27 => dSlice a26 fun c28 l29 => lNil r27 (bif !(firB mx (D.agg [D.int .i64 sm, D.int .u64 sn, D.int .u64 sb, D.slice sc sl])) then (some (.b true, [])) else (bif decide (((l25.length : Int)) > 100) then (some (.b true, [])) else (bif bkK (D.agg [D.str s4, D.agg [D.int .i64 n10, D.int .i64 n13], D.slice c16 l17, D.slice c20 l21, D.slice c24 l25, D.slice c28 l29]) && gC p m ([] : List UInt8) then (lab (todoAt (Γ mx) 5 9) ⟨[(1, .s p), (2, .s m), (9, .ptr 0 [] 32), (11, .sl 54 .any ((kyA (kRows (D.agg [D.str s4, D.agg [D.int .i64 n10, D.int .i64 n13], D.slice c16 l17, D.slice c20 l21, D.slice c24 l25, D.slice c28 l29]) p m ([] : List UInt8)) rowP 100))), (13, .i .i64 (pgE 100)), (14, .snil), (15, .s ([] : List UInt8)), (16, .i .i64 (IntKind.wrap .i64 (1 + (IntKind.wrap .i64 (Int.tmod q 7))))), (17, .i .i64 0)], [some (.box 32 (.d 32 (D.agg [D.str s4, D.agg [D.int .i64 n10, D.int .i64 n13], D.slice c16 l17, D.slice c20 l21, D.slice c24 l25, D.slice c28 l29])))]⟩) else none))))) else none := by kernel_rfl
theorem w5_9a (lab : Lab) (s1 : List UInt8) (s2 : List UInt8) (l3 : List D) (n4 : Int) (s5 : List UInt8) (n6 : Int) (n7 : Int) (s8 : List UInt8) (n9 : Int) (n10 : Int) (c11 : Cp) (l12 : List D) (c13 : Cp) (l14 : List D) (c15 : Cp) (l16 : List D) (c17 : Cp) (l18 : List D) : evL (Γ mx) (W5 mx) lab 5 9 ⟨[(1, .s s1), (2, .s s2), (9, .ptr 0 [] 32), (11, .sl 54 .any l3), (13, .i .i64 n4), (14, .snil), (15, .s s5), (16, .i .i64 n6), (17, .i .i64 n7)], [some (.box 32 (.d 32 (D.agg [D.str s8, D.agg [D.int .i64 n9, D.int .i64 n10], D.slice c11 l12, D.slice c13 l14, D.slice c15 l16, D.slice c17 l18])))]⟩ =
  bif decide (n7 < 120) then (bif bkK (D.agg [D.str s8, D.agg [D.int .i64 n9, D.int .i64 n10], D.slice c11 l12, D.slice c13 l14, D.slice c15 l16, D.slice c17 l18]) && gC s1 s2 s5 then (bif (pgE n6) != 0 then (some (.b false, [])) else (bif decide (((((kyA (kRows (D.agg [D.str s8, D.agg [D.int .i64 n9, D.int .i64 n10], D.slice c11 l12, D.slice c13 l14, D.slice c15 l16, D.slice c17 l18]) s1 s2 s5) rowP n6)).length : Int)) > n6) then (some (.b false, [])) else (bif kyN (kRows (D.agg [D.str s8, D.agg [D.int .i64 n9, D.int .i64 n10], D.slice c11 l12, D.slice c13 l14, D.slice c15 l16, D.slice c17 l18]) s1 s2 s5) n6 then (bif ((((kyA (kRows (D.agg [D.str s8, D.agg [D.int .i64 n9, D.int .i64 n10], D.slice c11 l12, D.slice c13 l14, D.slice c15 l16, D.slice c17 l18]) s1 s2 s5) rowP n6)).length : Int)) != n6 then (some (.b false, [])) else (onNil ((kyA (kRows (D.agg [D.str s8, D.agg [D.int .i64 n9, D.int .i64 n10], D.slice c11 l12, D.slice c13 l14, D.slice c15 l16, D.slice c17 l18]) s1 s2 s5) rowP n6)) (bif !(kyN (kRows (D.agg [D.str s8, D.agg [D.int .i64 n9, D.int .i64 n10], D.slice c11 l12, D.slice c13 l14, D.slice c15 l16, D.slice c17 l18]) s1 s2 s5) n6) then (bif n4 != 0 then (some (.b false, [])) else (lab (todoAt (Γ mx) 5 23) ⟨[(9, .ptr 0 [] 32), (11, .sl 54 .any l3), (14, .snil), (22, .i .i64 0)], [some (.box 32 (.d 32 (D.agg [D.str s8, D.agg [D.int .i64 n9, D.int .i64 n10], D.slice c11 l12, D.slice c13 l14, D.slice c15 l16, D.slice c17 l18])))]⟩)) else (idx ((kyA (kRows (D.agg [D.str s8, D.agg [D.int .i64 n9, D.int .i64 n10], D.slice c11 l12, D.slice c13 l14, D.slice c15 l16, D.slice c17 l18]) s1 s2 s5) rowP n6)) (IntKind.wrap .i64 (((((kyA (kRows (D.agg [D.str s8, D.agg [D.int .i64 n9, D.int .i64 n10], D.slice c11 l12, D.slice c13 l14, D.slice c15 l16, D.slice c17 l18]) s1 s2 s5) rowP n6)).length : Int)) - 1)) fun y19 => dAgg y19 fun y20 => lCons y20 fun a21 r22 => dStr a21 fun s23 => lCons r22 fun a24 r25 => dBool a24 fun b26 => lCons r25 fun a27 r28 => dAgg a27 fun y29 => lCons y29 fun a30 r31 => dInt .u64 a30 fun n32 => lCons r31 fun a33 r34 => dBool a33 fun b35 => lCons r34 fun a36 r37 => dInt .i64 a36 fun n38 => lCons r37 fun a39 r40 => dInt .u64 a39 fun n41 => lCons r40 fun a42 r43 => dAgg a42 fun y44 => lCons r43 fun a45 r46 => dInt .i64 a45 fun n47 => lCons r46 fun a48 r49 => dAgg a48 fun y50 => lCons y50 fun a51 r52 => dInt .i64 a51 fun n53 => lCons r52 fun a54 r55 => dInt .i64 a54 fun n56 => lCons r55 fun a57 r58 => dBool a57 fun b59 => lNil r58 (lCons r49 fun a60 r61 => dSlice a60 fun c62 l63 => lNil r61 (lCons r28 fun a64 r65 => dBool a64 fun b66 => lNil r65 (bif b26 then (bif decide (List.length s23 + List.length ([244, 143, 191, 191, 244, 143, 191, 191] : List UInt8) ≤ maxStr) then (lab (todoAt (Γ mx) 5 9) ⟨[(1, .s s1), (2, .s s2), (9, .ptr 0 [] 32), (11, .sl 54 .any l3), (13, .i .i64 n4), (14, .snil), (15, .s (s23 ++ ([244, 143, 191, 191, 244, 143, 191, 191] : List UInt8))), (16, .i .i64 n6), (17, .i .i64 (IntKind.wrap .i64 (n7 + 1)))], [some (.box 32 (.d 32 (D.agg [D.str s8, D.agg [D.int .i64 n9, D.int .i64 n10], D.slice c11 l12, D.slice c13 l14, D.slice c15 l16, D.slice c17 l18])))]⟩) else none) else (lab (todoAt (Γ mx) 5 9) ⟨[(1, .s s1), (2, .s s2), (9, .ptr 0 [] 32), (11, .sl 54 .any l3), (13, .i .i64 n4), (14, .snil), (15, .s s23), (16, .i .i64 n6), (17, .i .i64 (IntKind.wrap .i64 (n7 + 1)))], [some (.box 32 (.d 32 (D.agg [D.str s8, D.agg [D.int .i64 n9, D.int .i64 n10], D.slice c11 l12, D.slice c13 l14, D.slice c15 l16, D.slice c17 l18])))]⟩)))))) (bif roomB (((kyA (kRows (D.agg [D.str s8, D.agg [D.int .i64 n9, D.int .i64 n10], D.slice c11 l12, D.slice c13 l14, D.slice c15 l16, D.slice c17 l18]) s1 s2 s5) rowP n6)).length) 152 then (bif !(kyN (kRows (D.agg [D.str s8, D.agg [D.int .i64 n9, D.int .i64 n10], D.slice c11 l12, D.slice c13 l14, D.slice c15 l16, D.slice c17 l18]) s1 s2 s5) n6) then (bif n4 != 0 then (some (.b false, [])) else (lab (todoAt (Γ mx) 5 23) ⟨[(9, .ptr 0 [] 32), (11, .sl 54 .any l3), (14, .ref 54 1), (22, .i .i64 0)], [some (.box 32 (.d 32 (D.agg [D.str s8, D.agg [D.int .i64 n9, D.int .i64 n10], D.slice c11 l12, D.slice c13 l14, D.slice c15 l16, D.slice c17 l18]))), some (.arr 54 ((kyA (kRows (D.agg [D.str s8, D.agg [D.int .i64 n9, D.int .i64 n10], D.slice c11 l12, D.slice c13 l14, D.slice c15 l16, D.slice c17 l18]) s1 s2 s5) rowP n6)) false)]⟩)) else (idx ((kyA (kRows (D.agg [D.str s8, D.agg [D.int .i64 n9, D.int .i64 n10], D.slice c11 l12, D.slice c13 l14, D.slice c15 l16, D.slice c17 l18]) s1 s2 s5) rowP n6)) (IntKind.wrap .i64 (((((kyA (kRows (D.agg [D.str s8, D.agg [D.int .i64 n9, D.int .i64 n10], D.slice c11 l12, D.slice c13 l14, D.slice c15 l16, D.slice c17 l18]) s1 s2 s5) rowP n6)).length : Int)) - 1)) fun y67 => dAgg y67 fun y68 => lCons y68 fun a69 r70 => dStr a69 fun s71 => lCons r70 fun a72 r73 => dBool a72 fun b74 => lCons r73 fun a75 r76 => dAgg a75 fun y77 => lCons y77 fun a78 r79 => dInt .u64 a78 fun n80 => lCons r79 fun a81 r82 => dBool a81 fun b83 => lCons r82 fun a84 r85 => dInt .i64 a84 fun n86 => lCons r85 fun a87 r88 => dInt .u64 a87 fun n89 => lCons r88 fun a90 r91 => dAgg a90 fun y92 => lCons r91 fun a93 r94 => dInt .i64 a93 fun n95 => lCons r94 fun a96 r97 => dAgg a96 fun y98 => lCons y98 fun a99 r100 => dInt .i64 a99 fun n101 => lCons r100 fun a102 r103 => dInt .i64 a102 fun n104 => lCons r103 fun a105 r106 => dBool a105 fun b107 => lNil r106 (lCons r97 fun a108 r109 => dSlice a108 fun c110 l111 => lNil r109 (lCons r76 fun a112 r113 => dBool a112 fun b114 => lNil r113 (bif b74 then (bif decide (List.length s71 + List.length ([244, 143, 191, 191, 244, 143, 191, 191] : List UInt8) ≤ maxStr) then (lab (todoAt (Γ mx) 5 9) ⟨[(1, .s s1), (2, .s s2), (9, .ptr 0 [] 32), (11, .sl 54 .any l3), (13, .i .i64 n4), (14, .ref 54 1), (15, .s (s71 ++ ([244, 143, 191, 191, 244, 143, 191, 191] : List UInt8))), (16, .i .i64 n6), (17, .i .i64 (IntKind.wrap .i64 (n7 + 1)))], [some (.box 32 (.d 32 (D.agg [D.str s8, D.agg [D.int .i64 n9, D.int .i64 n10], D.slice c11 l12, D.slice c13 l14, D.slice c15 l16, D.slice c17 l18]))), some (.arr 54 ((kyA (kRows (D.agg [D.str s8, D.agg [D.int .i64 n9, D.int .i64 n10], D.slice c11 l12, D.slice c13 l14, D.slice c15 l16, D.slice c17 l18]) s1 s2 s5) rowP n6)) false)]⟩) else none) else (lab (todoAt (Γ mx) 5 9) ⟨[(1, .s s1), (2, .s s2), (9, .ptr 0 [] 32), (11, .sl 54 .any l3), (13, .i .i64 n4), (14, .ref 54 1), (15, .s s71), (16, .i .i64 n6), (17, .i .i64 (IntKind.wrap .i64 (n7 + 1)))], [some (.box 32 (.d 32 (D.agg [D.str s8, D.agg [D.int .i64 n9, D.int .i64 n10], D.slice c11 l12, D.slice c13 l14, D.slice c15 l16, D.slice c17 l18]))), some (.arr 54 ((kyA (kRows (D.agg [D.str s8, D.agg [D.int .i64 n9, D.int .i64 n10], D.slice c11 l12, D.slice c13 l14, D.slice c15 l16, D.slice c17 l18]) s1 s2 s5) rowP n6)) false)]⟩)))))) else none))) else (onNil ((kyA (kRows (D.agg [D.str s8, D.agg [D.int .i64 n9, D.int .i64 n10], D.slice c11 l12, D.slice c13 l14, D.slice c15 l16, D.slice c17 l18]) s1 s2 s5) rowP n6)) (bif !(kyN (kRows (D.agg [D.str s8, D.agg [D.int .i64 n9, D.int .i64 n10], D.slice c11 l12, D.slice c13 l14, D.slice c15 l16, D.slice c17 l18]) s1 s2 s5) n6) then (bif n4 != 0 then (some (.b false, [])) else (lab (todoAt (Γ mx) 5 23) ⟨[(9, .ptr 0 [] 32), (11, .sl 54 .any l3), (14, .snil), (22, .i .i64 0)], [some (.box 32 (.d 32 (D.agg [D.str s8, D.agg [D.int .i64 n9, D.int .i64 n10], D.slice c11 l12, D.slice c13 l14, D.slice c15 l16, D.slice c17 l18])))]⟩)) else (idx ((kyA (kRows (D.agg [D.str s8, D.agg [D.int .i64 n9, D.int .i64 n10], D.slice c11 l12, D.slice c13 l14, D.slice c15 l16, D.slice c17 l18]) s1 s2 s5) rowP n6)) (IntKind.wrap .i64 (((((kyA (kRows (D.agg [D.str s8, D.agg [D.int .i64 n9, D.int .i64 n10], D.slice c11 l12, D.slice c13 l14, D.slice c15 l16, D.slice c17 l18]) s1 s2 s5) rowP n6)).length : Int)) - 1)) fun y115 => dAgg y115 fun y116 => lCons y116 fun a117 r118 => dStr a117 fun s119 => lCons r118 fun a120 r121 => dBool a120 fun b122 => lCons r121 fun a123 r124 => dAgg a123 fun y125 => lCons y125 fun a126 r127 => dInt .u64 a126 fun n128 => lCons r127 fun a129 r130 => dBool a129 fun b131 => lCons r130 fun a132 r133 => dInt .i64 a132 fun n134 => lCons r133 fun a135 r136 => dInt .u64 a135 fun n137 => lCons r136 fun a138 r139 => dAgg a138 fun y140 => lCons r139 fun a141 r142 => dInt .i64 a141 fun n143 => lCons r142 fun a144 r145 => dAgg a144 fun y146 => lCons y146 fun a147 r148 => dInt .i64 a147 fun n149 => lCons r148 fun a150 r151 => dInt .i64 a150 fun n152 => lCons r151 fun a153 r154 => dBool a153 fun b155 => lNil r154 (lCons r145 fun a156 r157 => dSlice a156 fun c158 l159 => lNil r157 (lCons r124 fun a160 r161 => dBool a160 fun b162 => lNil r161 (bif b122 then (bif decide (List.length s119 + List.length ([244, 143, 191, 191, 244, 143, 191, 191] : List UInt8) ≤ maxStr) then (lab (todoAt (Γ mx) 5 9) ⟨[(1, .s s1), (2, .s s2), (9, .ptr 0 [] 32), (11, .sl 54 .any l3), (13, .i .i64 n4), (14, .snil), (15, .s (s119 ++ ([244, 143, 191, 191, 244, 143, 191, 191] : List UInt8))), (16, .i .i64 n6), (17, .i .i64 (IntKind.wrap .i64 (n7 + 1)))], [some (.box 32 (.d 32 (D.agg [D.str s8, D.agg [D.int .i64 n9, D.int .i64 n10], D.slice c11 l12, D.slice c13 l14, D.slice c15 l16, D.slice c17 l18])))]⟩) else none) else (lab (todoAt (Γ mx) 5 9) ⟨[(1, .s s1), (2, .s s2), (9, .ptr 0 [] 32), (11, .sl 54 .any l3), (13, .i .i64 n4), (14, .snil), (15, .s s119), (16, .i .i64 n6), (17, .i .i64 (IntKind.wrap .i64 (n7 + 1)))], [some (.box 32 (.d 32 (D.agg [D.str s8, D.agg [D.int .i64 n9, D.int .i64 n10], D.slice c11 l12, D.slice c13 l14, D.slice c15 l16, D.slice c17 l18])))]⟩)))))) (bif roomB (((kyA (kRows (D.agg [D.str s8, D.agg [D.int .i64 n9, D.int .i64 n10], D.slice c11 l12, D.slice c13 l14, D.slice c15 l16, D.slice c17 l18]) s1 s2 s5) rowP n6)).length) 152 then (bif !(kyN (kRows (D.agg [D.str s8, D.agg [D.int .i64 n9, D.int .i64 n10], D.slice c11 l12, D.slice c13 l14, D.slice c15 l16, D.slice c17 l18]) s1 s2 s5) n6) then (bif n4 != 0 then (some (.b false, [])) else (lab (todoAt (Γ mx) 5 23) ⟨[(9, .ptr 0 [] 32), (11, .sl 54 .any l3), (14, .ref 54 1), (22, .i .i64 0)], [some (.box 32 (.d 32 (D.agg [D.str s8, D.agg [D.int .i64 n9, D.int .i64 n10], D.slice c11 l12, D.slice c13 l14, D.slice c15 l16, D.slice c17 l18]))), some (.arr 54 ((kyA (kRows (D.agg [D.str s8, D.agg [D.int .i64 n9, D.int .i64 n10], D.slice c11 l12, D.slice c13 l14, D.slice c15 l16, D.slice c17 l18]) s1 s2 s5) rowP n6)) false)]⟩)) else (idx ((kyA (kRows (D.agg [D.str s8, D.agg [D.int .i64 n9, D.int .i64 n10], D.slice c11 l12, D.slice c13 l14, D.slice c15 l16, D.slice c17 l18]) s1 s2 s5) rowP n6)) (IntKind.wrap .i64 (((((kyA (kRows (D.agg [D.str s8, D.agg [D.int .i64 n9, D.int .i64 n10], D.slice c11 l12, D.slice c13 l14, D.slice c15 l16, D.slice c17 l18]) s1 s2 s5) rowP n6)).length : Int)) - 1)) fun y163 => dAgg y163 fun y164 => lCons y164 fun a165 r166 => dStr a165 fun s167 => lCons r166 fun a168 r169 => dBool a168 fun b170 => lCons r169 fun a171 r172 => dAgg a171 fun y173 => lCons y173 fun a174 r175 => dInt .u64 a174 fun n176 => lCons r175 fun a177 r178 => dBool a177 fun b179 => lCons r178 fun a180 r181 => dInt .i64 a180 fun n182 => lCons r181 fun a183 r184 => dInt .u64 a183 fun n185 => lCons r184 fun a186 r187 => dAgg a186 fun y188 => lCons r187 fun a189 r190 => dInt .i64 a189 fun n191 => lCons r190 fun a192 r193 => dAgg a192 fun y194 => lCons y194 fun a195 r196 => dInt .i64 a195 fun n197 => lCons r196 fun a198 r199 => dInt .i64 a198 fun n200 => lCons r199 fun a201 r202 => dBool a201 fun b203 => lNil r202 (lCons r193 fun a204 r205 => dSlice a204 fun c206 l207 => lNil r205 (lCons r172 fun a208 r209 => dBool a208 fun b210 => lNil r209 (bif b170 then (bif decide (List.length s167 + List.length ([244, 143, 191, 191, 244, 143, 191, 191] : List UInt8) ≤ maxStr) then (lab (todoAt (Γ mx) 5 9) ⟨[(1, .s s1), (2, .s s2), (9, .ptr 0 [] 32), (11, .sl 54 .any l3), (13, .i .i64 n4), (14, .ref 54 1), (15, .s (s167 ++ ([244, 143, 191, 191, 244, 143, 191, 191] : List UInt8))), (16, .i .i64 n6), (17, .i .i64 (IntKind.wrap .i64 (n7 + 1)))], [some (.box 32 (.d 32 (D.agg [D.str s8, D.agg [D.int .i64 n9, D.int .i64 n10], D.slice c11 l12, D.slice c13 l14, D.slice c15 l16, D.slice c17 l18]))), some (.arr 54 ((kyA (kRows (D.agg [D.str s8, D.agg [D.int .i64 n9, D.int .i64 n10], D.slice c11 l12, D.slice c13 l14, D.slice c15 l16, D.slice c17 l18]) s1 s2 s5) rowP n6)) false)]⟩) else none) else (lab (todoAt (Γ mx) 5 9) ⟨[(1, .s s1), (2, .s s2), (9, .ptr 0 [] 32), (11, .sl 54 .any l3), (13, .i .i64 n4), (14, .ref 54 1), (15, .s s167), (16, .i .i64 n6), (17, .i .i64 (IntKind.wrap .i64 (n7 + 1)))], [some (.box 32 (.d 32 (D.agg [D.str s8, D.agg [D.int .i64 n9, D.int .i64 n10], D.slice c11 l12, D.slice c13 l14, D.slice c15 l16, D.slice c17 l18]))), some (.arr 54 ((kyA (kRows (D.agg [D.str s8, D.agg [D.int .i64 n9, D.int .i64 n10], D.slice c11 l12, D.slice c13 l14, D.slice c15 l16, D.slice c17 l18]) s1 s2 s5) rowP n6)) false)]⟩)))))) else none))))) else none) else (bif n4 != 0 then (some (.b false, [])) else (lab (todoAt (Γ mx) 5 23) ⟨[(9, .ptr 0 [] 32), (11, .sl 54 .any l3), (14, .snil), (22, .i .i64 0)], [some (.box 32 (.d 32 (D.agg [D.str s8, D.agg [D.int .i64 n9, D.int .i64 n10], D.slice c11 l12, D.slice c13 l14, D.slice c15 l16, D.slice c17 l18])))]⟩)) := by kernel_rfl
theorem w5_23a (lab : Lab) (l1 : List D) (n2 : Int) (s3 : List UInt8) (n4 : Int) (n5 : Int) (c6 : Cp) (l7 : List D) (c8 : Cp) (l9 : List D) (c10 : Cp) (l11 : List D) (c12 : Cp) (l13 : List D) : evL (Γ mx) (W5 mx) lab 5 23 ⟨[(9, .ptr 0 [] 32), (11, .sl 54 .any l1), (14, .snil), (22, .i .i64 n2)], [some (.box 32 (.d 32 (D.agg [D.str s3, D.agg [D.int .i64 n4, D.int .i64 n5], D.slice c6 l7, D.slice c8 l9, D.slice c10 l11, D.slice c12 l13])))]⟩ =
  bif decide (n2 < ((l1.length : Int))) then (idx l1 n2 fun y14 => dAgg y14 fun y15 => lGet y15 1 fun y16 => dBool y16 fun b17 => bif b17 then (idx l1 n2 fun y18 => dAgg y18 fun y19 => lGet y19 0 fun y20 => dStr y20 fun s21 => bif bkK (D.agg [D.str s3, D.agg [D.int .i64 n4, D.int .i64 n5], D.slice c6 l7, D.slice c8 l9, D.slice c10 l11, D.slice c12 l13]) && short s21 then (bif farB (D.agg [D.str s3, D.agg [D.int .i64 n4, D.int .i64 n5], D.slice c6 l7, D.slice c8 l9, D.slice c10 l11, D.slice c12 l13]) s21 then (some (.b true, [])) else (lab (todoAt (Γ mx) 5 23) ⟨[(9, .ptr 0 [] 32), (11, .sl 54 .any l1), (14, .snil), (22, .i .i64 (IntKind.wrap .i64 (n2 + 1)))], [some (.box 32 (.d 32 (D.agg [D.str s3, D.agg [D.int .i64 n4, D.int .i64 n5], D.slice c6 l7, D.slice c8 l9, D.slice c10 l11, D.slice c12 l13])))]⟩)) else none) else (lab (todoAt (Γ mx) 5 23) ⟨[(9, .ptr 0 [] 32), (11, .sl 54 .any l1), (14, .snil), (22, .i .i64 (IntKind.wrap .i64 (n2 + 1)))], [some (.box 32 (.d 32 (D.agg [D.str s3, D.agg [D.int .i64 n4, D.int .i64 n5], D.slice c6 l7, D.slice c8 l9, D.slice c10 l11, D.slice c12 l13])))]⟩)) else (bif rwC [] && rwC l1 then (some (.b (rowsS [] l1), [])) else none) := by kernel_rfl
theorem w5_23b (lab : Lab) (l1 : List D) (n2 : Int) (s3 : List UInt8) (n4 : Int) (n5 : Int) (c6 : Cp) (l7 : List D) (c8 : Cp) (l9 : List D) (c10 : Cp) (l11 : List D) (c12 : Cp) (l13 : List D) (l14 : List D) : evL (Γ mx) (W5 mx) lab 5 23 ⟨[(9, .ptr 0 [] 32), (11, .sl 54 .any l1), (14, .ref 54 1), (22, .i .i64 n2)], [some (.box 32 (.d 32 (D.agg [D.str s3, D.agg [D.int .i64 n4, D.int .i64 n5], D.slice c6 l7, D.slice c8 l9, D.slice c10 l11, D.slice c12 l13]))), some (.arr 54 l14 false)]⟩ =
  bif decide (n2 < ((l1.length : Int))) then (idx l1 n2 fun y15 => dAgg y15 fun y16 => lGet y16 1 fun y17 => dBool y17 fun b18 => bif b18 then (idx l1 n2 fun y19 => dAgg y19 fun y20 => lGet y20 0 fun y21 => dStr y21 fun s22 => bif bkK (D.agg [D.str s3, D.agg [D.int .i64 n4, D.int .i64 n5], D.slice c6 l7, D.slice c8 l9, D.slice c10 l11, D.slice c12 l13]) && short s22 then (bif farB (D.agg [D.str s3, D.agg [D.int .i64 n4, D.int .i64 n5], D.slice c6 l7, D.slice c8 l9, D.slice c10 l11, D.slice c12 l13]) s22 then (some (.b true, [])) else (lab (todoAt (Γ mx) 5 23) ⟨[(9, .ptr 0 [] 32), (11, .sl 54 .any l1), (14, .ref 54 1), (22, .i .i64 (IntKind.wrap .i64 (n2 + 1)))], [some (.box 32 (.d 32 (D.agg [D.str s3, D.agg [D.int .i64 n4, D.int .i64 n5], D.slice c6 l7, D.slice c8 l9, D.slice c10 l11, D.slice c12 l13]))), some (.arr 54 l14 false)]⟩)) else none) else (lab (todoAt (Γ mx) 5 23) ⟨[(9, .ptr 0 [] 32), (11, .sl 54 .any l1), (14, .ref 54 1), (22, .i .i64 (IntKind.wrap .i64 (n2 + 1)))], [some (.box 32 (.d 32 (D.agg [D.str s3, D.agg [D.int .i64 n4, D.int .i64 n5], D.slice c6 l7, D.slice c8 l9, D.slice c10 l11, D.slice c12 l13]))), some (.arr 54 l14 false)]⟩)) else (bif rwC l14 && rwC l1 then (some (.b (rowsS l14 l1), [])) else none) := by kernel_rfl
theorem w5_9b (lab : Lab) (s1 : List UInt8) (s2 : List UInt8) (l3 : List D) (n4 : Int) (s5 : List UInt8) (n6 : Int) (n7 : Int) (s8 : List UInt8) (n9 : Int) (n10 : Int) (c11 : Cp) (l12 : List D) (c13 : Cp) (l14 : List D) (c15 : Cp) (l16 : List D) (c17 : Cp) (l18 : List D) (l19 : List D) : evL (Γ mx) (W5 mx) lab 5 9 ⟨[(1, .s s1), (2, .s s2), (9, .ptr 0 [] 32), (11, .sl 54 .any l3), (13, .i .i64 n4), (14, .ref 54 1), (15, .s s5), (16, .i .i64 n6), (17, .i .i64 n7)], [some (.box 32 (.d 32 (D.agg [D.str s8, D.agg [D.int .i64 n9, D.int .i64 n10], D.slice c11 l12, D.slice c13 l14, D.slice c15 l16, D.slice c17 l18]))), some (.arr 54 l19 false)]⟩ =
  bif decide (n7 < 120) then (bif bkK (D.agg [D.str s8, D.agg [D.int .i64 n9, D.int .i64 n10], D.slice c11 l12, D.slice c13 l14, D.slice c15 l16, D.slice c17 l18]) && gC s1 s2 s5 then (bif (pgE n6) != 0 then (some (.b false, [])) else (bif decide (((((kyA (kRows (D.agg [D.str s8, D.agg [D.int .i64 n9, D.int .i64 n10], D.slice c11 l12, D.slice c13 l14, D.slice c15 l16, D.slice c17 l18]) s1 s2 s5) rowP n6)).length : Int)) > n6) then (some (.b false, [])) else (bif kyN (kRows (D.agg [D.str s8, D.agg [D.int .i64 n9, D.int .i64 n10], D.slice c11 l12, D.slice c13 l14, D.slice c15 l16, D.slice c17 l18]) s1 s2 s5) n6 then (bif ((((kyA (kRows (D.agg [D.str s8, D.agg [D.int .i64 n9, D.int .i64 n10], D.slice c11 l12, D.slice c13 l14, D.slice c15 l16, D.slice c17 l18]) s1 s2 s5) rowP n6)).length : Int)) != n6 then (some (.b false, [])) else (bif roomB (l19.length + ((kyA (kRows (D.agg [D.str s8, D.agg [D.int .i64 n9, D.int .i64 n10], D.slice c11 l12, D.slice c13 l14, D.slice c15 l16, D.slice c17 l18]) s1 s2 s5) rowP n6)).length) 152 then (bif !(kyN (kRows (D.agg [D.str s8, D.agg [D.int .i64 n9, D.int .i64 n10], D.slice c11 l12, D.slice c13 l14, D.slice c15 l16, D.slice c17 l18]) s1 s2 s5) n6) then (bif n4 != 0 then (some (.b false, [])) else (lab (todoAt (Γ mx) 5 23) ⟨[(9, .ptr 0 [] 32), (11, .sl 54 .any l3), (14, .ref 54 1), (22, .i .i64 0)], [some (.box 32 (.d 32 (D.agg [D.str s8, D.agg [D.int .i64 n9, D.int .i64 n10], D.slice c11 l12, D.slice c13 l14, D.slice c15 l16, D.slice c17 l18]))), some (.arr 54 (l19 ++ ((kyA (kRows (D.agg [D.str s8, D.agg [D.int .i64 n9, D.int .i64 n10], D.slice c11 l12, D.slice c13 l14, D.slice c15 l16, D.slice c17 l18]) s1 s2 s5) rowP n6))) false)]⟩)) else (idx ((kyA (kRows (D.agg [D.str s8, D.agg [D.int .i64 n9, D.int .i64 n10], D.slice c11 l12, D.slice c13 l14, D.slice c15 l16, D.slice c17 l18]) s1 s2 s5) rowP n6)) (IntKind.wrap .i64 (((((kyA (kRows (D.agg [D.str s8, D.agg [D.int .i64 n9, D.int .i64 n10], D.slice c11 l12, D.slice c13 l14, D.slice c15 l16, D.slice c17 l18]) s1 s2 s5) rowP n6)).length : Int)) - 1)) fun y20 => dAgg y20 fun y21 => lCons y21 fun a22 r23 => dStr a22 fun s24 => lCons r23 fun a25 r26 => dBool a25 fun b27 => lCons r26 fun a28 r29 => dAgg a28 fun y30 => lCons y30 fun a31 r32 => dInt .u64 a31 fun n33 => lCons r32 fun a34 r35 => dBool a34 fun b36 => lCons r35 fun a37 r38 => dInt .i64 a37 fun n39 => lCons r38 fun a40 r41 => dInt .u64 a40 fun n42 => lCons r41 fun a43 r44 => dAgg a43 fun y45 => lCons r44 fun a46 r47 => dInt .i64 a46 fun n48 => lCons r47 fun a49 r50 => dAgg a49 fun y51 => lCons y51 fun a52 r53 => dInt .i64 a52 fun n54 => lCons r53 fun a55 r56 => dInt .i64 a55 fun n57 => lCons r56 fun a58 r59 => dBool a58 fun b60 => lNil r59 (lCons r50 fun a61 r62 => dSlice a61 fun c63 l64 => lNil r62 (lCons r29 fun a65 r66 => dBool a65 fun b67 => lNil r66 (bif b27 then (bif decide (List.length s24 + List.length ([244, 143, 191, 191, 244, 143, 191, 191] : List UInt8) ≤ maxStr) then (lab (todoAt (Γ mx) 5 9) ⟨[(1, .s s1), (2, .s s2), (9, .ptr 0 [] 32), (11, .sl 54 .any l3), (13, .i .i64 n4), (14, .ref 54 1), (15, .s (s24 ++ ([244, 143, 191, 191, 244, 143, 191, 191] : List UInt8))), (16, .i .i64 n6), (17, .i .i64 (IntKind.wrap .i64 (n7 + 1)))], [some (.box 32 (.d 32 (D.agg [D.str s8, D.agg [D.int .i64 n9, D.int .i64 n10], D.slice c11 l12, D.slice c13 l14, D.slice c15 l16, D.slice c17 l18]))), some (.arr 54 (l19 ++ ((kyA (kRows (D.agg [D.str s8, D.agg [D.int .i64 n9, D.int .i64 n10], D.slice c11 l12, D.slice c13 l14, D.slice c15 l16, D.slice c17 l18]) s1 s2 s5) rowP n6))) false)]⟩) else none) else (lab (todoAt (Γ mx) 5 9) ⟨[(1, .s s1), (2, .s s2), (9, .ptr 0 [] 32), (11, .sl 54 .any l3), (13, .i .i64 n4), (14, .ref 54 1), (15, .s s24), (16, .i .i64 n6), (17, .i .i64 (IntKind.wrap .i64 (n7 + 1)))], [some (.box 32 (.d 32 (D.agg [D.str s8, D.agg [D.int .i64 n9, D.int .i64 n10], D.slice c11 l12, D.slice c13 l14, D.slice c15 l16, D.slice c17 l18]))), some (.arr 54 (l19 ++ ((kyA (kRows (D.agg [D.str s8, D.agg [D.int .i64 n9, D.int .i64 n10], D.slice c11 l12, D.slice c13 l14, D.slice c15 l16, D.slice c17 l18]) s1 s2 s5) rowP n6))) false)]⟩)))))) else none)) else (bif roomB (l19.length + ((kyA (kRows (D.agg [D.str s8, D.agg [D.int .i64 n9, D.int .i64 n10], D.slice c11 l12, D.slice c13 l14, D.slice c15 l16, D.slice c17 l18]) s1 s2 s5) rowP n6)).length) 152 then (bif !(kyN (kRows (D.agg [D.str s8, D.agg [D.int .i64 n9, D.int .i64 n10], D.slice c11 l12, D.slice c13 l14, D.slice c15 l16, D.slice c17 l18]) s1 s2 s5) n6) then (bif n4 != 0 then (some (.b false, [])) else (lab (todoAt (Γ mx) 5 23) ⟨[(9, .ptr 0 [] 32), (11, .sl 54 .any l3), (14, .ref 54 1), (22, .i .i64 0)], [some (.box 32 (.d 32 (D.agg [D.str s8, D.agg [D.int .i64 n9, D.int .i64 n10], D.slice c11 l12, D.slice c13 l14, D.slice c15 l16, D.slice c17 l18]))), some (.arr 54 (l19 ++ ((kyA (kRows (D.agg [D.str s8, D.agg [D.int .i64 n9, D.int .i64 n10], D.slice c11 l12, D.slice c13 l14, D.slice c15 l16, D.slice c17 l18]) s1 s2 s5) rowP n6))) false)]⟩)) else (idx ((kyA (kRows (D.agg [D.str s8, D.agg [D.int .i64 n9, D.int .i64 n10], D.slice c11 l12, D.slice c13 l14, D.slice c15 l16, D.slice c17 l18]) s1 s2 s5) rowP n6)) (IntKind.wrap .i64 (((((kyA (kRows (D.agg [D.str s8, D.agg [D.int .i64 n9, D.int .i64 n10], D.slice c11 l12, D.slice c13 l14, D.slice c15 l16, D.slice c17 l18]) s1 s2 s5) rowP n6)).length : Int)) - 1)) fun y68 => dAgg y68 fun y69 => lCons y69 fun a70 r71 => dStr a70 fun s72 => lCons r71 fun a73 r74 => dBool a73 fun b75 => lCons r74 fun a76 r77 => dAgg a76 fun y78 => lCons y78 fun a79 r80 => dInt .u64 a79 fun n81 => lCons r80 fun a82 r83 => dBool a82 fun b84 => lCons r83 fun a85 r86 => dInt .i64 a85 fun n87 => lCons r86 fun a88 r89 => dInt .u64 a88 fun n90 => lCons r89 fun a91 r92 => dAgg a91 fun y93 => lCons r92 fun a94 r95 => dInt .i64 a94 fun n96 => lCons r95 fun a97 r98 => dAgg a97 fun y99 => lCons y99 fun a100 r101 => dInt .i64 a100 fun n102 => lCons r101 fun a103 r104 => dInt .i64 a103 fun n105 => lCons r104 fun a106 r107 => dBool a106 fun b108 => lNil r107 (lCons r98 fun a109 r110 => dSlice a109 fun c111 l112 => lNil r110 (lCons r77 fun a113 r114 => dBool a113 fun b115 => lNil r114 (bif b75 then (bif decide (List.length s72 + List.length ([244, 143, 191, 191, 244, 143, 191, 191] : List UInt8) ≤ maxStr) then (lab (todoAt (Γ mx) 5 9) ⟨[(1, .s s1), (2, .s s2), (9, .ptr 0 [] 32), (11, .sl 54 .any l3), (13, .i .i64 n4), (14, .ref 54 1), (15, .s (s72 ++ ([244, 143, 191, 191, 244, 143, 191, 191] : List UInt8))), (16, .i .i64 n6), (17, .i .i64 (IntKind.wrap .i64 (n7 + 1)))], [some (.box 32 (.d 32 (D.agg [D.str s8, D.agg [D.int .i64 n9, D.int .i64 n10], D.slice c11 l12, D.slice c13 l14, D.slice c15 l16, D.slice c17 l18]))), some (.arr 54 (l19 ++ ((kyA (kRows (D.agg [D.str s8, D.agg [D.int .i64 n9, D.int .i64 n10], D.slice c11 l12, D.slice c13 l14, D.slice c15 l16, D.slice c17 l18]) s1 s2 s5) rowP n6))) false)]⟩) else none) else (lab (todoAt (Γ mx) 5 9) ⟨[(1, .s s1), (2, .s s2), (9, .ptr 0 [] 32), (11, .sl 54 .any l3), (13, .i .i64 n4), (14, .ref 54 1), (15, .s s72), (16, .i .i64 n6), (17, .i .i64 (IntKind.wrap .i64 (n7 + 1)))], [some (.box 32 (.d 32 (D.agg [D.str s8, D.agg [D.int .i64 n9, D.int .i64 n10], D.slice c11 l12, D.slice c13 l14, D.slice c15 l16, D.slice c17 l18]))), some (.arr 54 (l19 ++ ((kyA (kRows (D.agg [D.str s8, D.agg [D.int .i64 n9, D.int .i64 n10], D.slice c11 l12, D.slice c13 l14, D.slice c15 l16, D.slice c17 l18]) s1 s2 s5) rowP n6))) false)]⟩)))))) else none)))) else none) else (bif n4 != 0 then (some (.b false, [])) else (lab (todoAt (Γ mx) 5 23) ⟨[(9, .ptr 0 [] 32), (11, .sl 54 .any l3), (14, .ref 54 1), (22, .i .i64 0)], [some (.box 32 (.d 32 (D.agg [D.str s8, D.agg [D.int .i64 n9, D.int .i64 n10], D.slice c11 l12, D.slice c13 l14, D.slice c15 l16, D.slice c17 l18]))), some (.arr 54 l19 false)]⟩)) := by kernel_rfl
end Go.Proofs.Ytapaenfafjmljaa.V

/- Lists: what the machine over values makes of functions (3,): equations, written by program. -/
namespace Go.Proofs.Ytapaenfafjmljaa.V
open Go
set_option maxRecDepth 100000
set_option linter.unusedVariables false
set_option linter.unusedSimpArgs false
variable {mx : Int}
noncomputable def W3 (mx : Int) : Handle := runS [⟨9, dat (sp0 true (.b true))⟩, ⟨8, dat (spD1 24 stC fun s => .tuple [.d 32 (firD mx s), .b (firB mx s)])⟩, ⟨10, dat (spKz kRows rowP)⟩, ⟨11, dat (spKz kRowsD rowR)⟩, ⟨12, dat (spLL 54 54 (fun a b => rwC a && rwC b) fun a b => .b (rowsS a b))⟩]
theorem w3 (lab : Lab) (sm : Int) (sn : Int) (sb : Int) (sc : Cp) (sl : List D) (p : List UInt8) (m : List UInt8) (a : List UInt8) (n : Int) : evF (Γ mx) (W3 mx) lab 3 [.d 24 (D.agg [D.int .i64 sm, D.int .u64 sn, D.int .u64 sb, D.slice sc sl]), .s p, .s m, .s a, .i .i64 n] [] =
  bif stC (D.agg [D.int .i64 sm, D.int .u64 sn, D.int .u64 sb, D.slice sc sl]) then (dAgg ((firD mx (D.agg [D.int .i64 sm, D.int .u64 sn, D.int .u64 sb, D.slice sc sl]))) fun y1 => lCons y1 fun a2 r3 => dStr a2 fun s4 => lCons r3 fun a5 r6 => dAgg a5 fun y7 => lCons y7 fun a8 r9 => dInt .i64 a8 fun n10 => lCons r9 fun a11 r12 => dInt .i64 a11 fun n13 => lNil r12 (lCons r6 fun a14 r15 => dSlice a14 fun c16 l17 => lCons r15 fun a18 r19 => dSlice a18 fun c20 l21 => lCons r19 fun a22 r23 => dSlice a22 fun c24 l25 => lCons r23 fun a26 r27 => dSlice a26 fun c28 l29 => lNil r27 (bif !(firB mx (D.agg [D.int .i64 sm, D.int .u64 sn, D.int .u64 sb, D.slice sc sl])) then (some (.b true, [])) else (bif bkK (D.agg [D.str s4, D.agg [D.int .i64 n10, D.int .i64 n13], D.slice c16 l17, D.slice c20 l21, D.slice c24 l25, D.slice c28 l29]) && gC p m a then (bif bkK (D.agg [D.str s4, D.agg [D.int .i64 n10, D.int .i64 n13], D.slice c16 l17, D.slice c20 l21, D.slice c24 l25, D.slice c28 l29]) && gC p m a then (bif (pgE n) == (pgE n) then (bif (kyN (kRows (D.agg [D.str s4, D.agg [D.int .i64 n10, D.int .i64 n13], D.slice c16 l17, D.slice c20 l21, D.slice c24 l25, D.slice c28 l29]) p m a) n) == (kyN (kRowsD (D.agg [D.str s4, D.agg [D.int .i64 n10, D.int .i64 n13], D.slice c16 l17, D.slice c20 l21, D.slice c24 l25, D.slice c28 l29]) p m a) n) then (bif rwC (((kyA (kRows (D.agg [D.str s4, D.agg [D.int .i64 n10, D.int .i64 n13], D.slice c16 l17, D.slice c20 l21, D.slice c24 l25, D.slice c28 l29]) p m a) rowP n))) && rwC (((kyA (kRowsD (D.agg [D.str s4, D.agg [D.int .i64 n10, D.int .i64 n13], D.slice c16 l17, D.slice c20 l21, D.slice c24 l25, D.slice c28 l29]) p m a) rowR n))) then (some (.b (rowsS (((kyA (kRows (D.agg [D.str s4, D.agg [D.int .i64 n10, D.int .i64 n13], D.slice c16 l17, D.slice c20 l21, D.slice c24 l25, D.slice c28 l29]) p m a) rowP n))) (((kyA (kRowsD (D.agg [D.str s4, D.agg [D.int .i64 n10, D.int .i64 n13], D.slice c16 l17, D.slice c20 l21, D.slice c24 l25, D.slice c28 l29]) p m a) rowR n)))), [])) else none) else (some (.b false, []))) else (some (.b false, []))) else none) else none)))) else none := by kernel_rfl
end Go.Proofs.Ytapaenfafjmljaa.V

/- Lists: what the machine over values makes of functions (11,): equations, written by program. -/
namespace Go.Proofs.Ytapaenfafjmljaa.V
open Go
set_option maxRecDepth 100000
set_option linter.unusedVariables false
set_option linter.unusedSimpArgs false
variable {mx : Int}
def W11 : Handle := runS [⟨23, dat (sp2 (fun _ _ => true) fun a b => .b (hpB a b))⟩, ⟨24, dat (sp3 gC fun k p m => .tuple [.s (grpS k p m), .b (grpB k p m)])⟩, ⟨25, dat spPg⟩]
theorem w11 (lab : Lab) (bn : List UInt8) (bm : Int) (bd : Int) (brc : Cp) (brs : List D) (bgc : Cp) (bgs : List D) (boc : Cp) (bos : List D) (buc : Cp) (bus : List D) (p : List UInt8) (m : List UInt8) (a : List UInt8) (n : Int) : evF (Γ mx) W11 lab 11 [.d 32 (D.agg [D.str bn, D.agg [D.int .i64 bm, D.int .i64 bd], D.slice brc brs, D.slice bgc bgs, D.slice boc bos, D.slice buc bus]), .s p, .s m, .s a, .i .i64 n] [] =
  bif decide (n < 1) then (some (.tuple [.snil, .b false, .i .i64 1], [])) else (bif decide (n > 100) then (some (.tuple [.snil, .b false, .i .i64 1], [])) else (lab (todoAt (Γ mx) 11 5) ⟨[(1, .s p), (2, .s m), (3, .s a), (4, .i .i64 n), (5, .ptr 0 [] 32), (13, .ref 54 1), (14, .i .i64 0)], [some (.box 32 (.d 32 (D.agg [D.str bn, D.agg [D.int .i64 bm, D.int .i64 bd], D.slice brc brs, D.slice bgc bgs, D.slice boc bos, D.slice buc bus]))), some (.arr 54 [] false)]⟩)) := by kernel_rfl
theorem w11_5a (lab : Lab) (s1 : List UInt8) (s2 : List UInt8) (s3 : List UInt8) (n4 : Int) (n5 : Int) (s6 : List UInt8) (n7 : Int) (n8 : Int) (c9 : Cp) (l10 : List D) (c11 : Cp) (l12 : List D) (c13 : Cp) (l14 : List D) (c15 : Cp) (l16 : List D) (l17 : List D) : evL (Γ mx) W11 lab 11 5 ⟨[(1, .s s1), (2, .s s2), (3, .s s3), (4, .i .i64 n4), (5, .ptr 0 [] 32), (13, .ref 54 1), (14, .i .i64 n5)], [some (.box 32 (.d 32 (D.agg [D.str s6, D.agg [D.int .i64 n7, D.int .i64 n8], D.slice c9 l10, D.slice c11 l12, D.slice c13 l14, D.slice c15 l16]))), some (.arr 54 l17 false)]⟩ =
  bif decide (n5 < ((l14.length : Int))) then (idx l14 n5 fun y18 => dAgg y18 fun y19 => lCons y19 fun a20 r21 => dStr a20 fun s22 => lCons r21 fun a23 r24 => dSlice a23 fun c25 l26 => lNil r24 (idx l26 (IntKind.wrap .i64 (((l26.length : Int)) - 1)) fun y27 => dAgg y27 fun y28 => lCons y28 fun a29 r30 => dInt .u64 a29 fun n31 => lCons r30 fun a32 r33 => dBool a32 fun b34 => lCons r33 fun a35 r36 => dInt .i64 a35 fun n37 => lCons r36 fun a38 r39 => dInt .u64 a38 fun n40 => lCons r39 fun a41 r42 => dAgg a41 fun y43 => lCons r42 fun a44 r45 => dInt .i64 a44 fun n46 => lCons r45 fun a47 r48 => dAgg a47 fun y49 => lCons y49 fun a50 r51 => dInt .i64 a50 fun n52 => lCons r51 fun a53 r54 => dInt .i64 a53 fun n55 => lCons r54 fun a56 r57 => dBool a56 fun b58 => lNil r57 (lCons r48 fun a59 r60 => dSlice a59 fun c61 l62 => lNil r60 (bif !(hpB s22 s1) then (lab (todoAt (Γ mx) 11 5) ⟨[(1, .s s1), (2, .s s2), (3, .s s3), (4, .i .i64 n4), (5, .ptr 0 [] 32), (13, .ref 54 1), (14, .i .i64 (IntKind.wrap .i64 (n5 + 1)))], [some (.box 32 (.d 32 (D.agg [D.str s6, D.agg [D.int .i64 n7, D.int .i64 n8], D.slice c9 l10, D.slice c11 l12, D.slice c13 l14, D.slice c15 l16]))), some (.arr 54 l17 false)]⟩) else (bif lessB s22 s3 || s22 == s3 then (lab (todoAt (Γ mx) 11 5) ⟨[(1, .s s1), (2, .s s2), (3, .s s3), (4, .i .i64 n4), (5, .ptr 0 [] 32), (13, .ref 54 1), (14, .i .i64 (IntKind.wrap .i64 (n5 + 1)))], [some (.box 32 (.d 32 (D.agg [D.str s6, D.agg [D.int .i64 n7, D.int .i64 n8], D.slice c9 l10, D.slice c11 l12, D.slice c13 l14, D.slice c15 l16]))), some (.arr 54 l17 false)]⟩) else (bif b34 then (lab (todoAt (Γ mx) 11 5) ⟨[(1, .s s1), (2, .s s2), (3, .s s3), (4, .i .i64 n4), (5, .ptr 0 [] 32), (13, .ref 54 1), (14, .i .i64 (IntKind.wrap .i64 (n5 + 1)))], [some (.box 32 (.d 32 (D.agg [D.str s6, D.agg [D.int .i64 n7, D.int .i64 n8], D.slice c9 l10, D.slice c11 l12, D.slice c13 l14, D.slice c15 l16]))), some (.arr 54 l17 false)]⟩) else (bif gC s22 s1 s2 then (bif !(grpB s22 s1 s2) then (bif roomB (l17.length + 1) 152 then (lab (todoAt (Γ mx) 11 5) ⟨[(1, .s s1), (2, .s s2), (3, .s s3), (4, .i .i64 n4), (5, .ptr 0 [] 32), (13, .ref 54 1), (14, .i .i64 (IntKind.wrap .i64 (n5 + 1)))], [some (.box 32 (.d 32 (D.agg [D.str s6, D.agg [D.int .i64 n7, D.int .i64 n8], D.slice c9 l10, D.slice c11 l12, D.slice c13 l14, D.slice c15 l16]))), some (.arr 54 (l17 ++ [D.agg [D.str s22, D.bool false, D.agg [D.int .u64 n31, D.bool b34, D.int .i64 n37, D.int .u64 n40, D.agg y43, D.int .i64 n46, D.agg [D.int .i64 n52, D.int .i64 n55, D.bool b58], D.slice c61 l62], D.bool true]]) false)]⟩) else none) else (lab (todoAt (Γ mx) 11 15) ⟨[(1, .s s1), (2, .s s2), (3, .s s3), (4, .i .i64 n4), (5, .ptr 0 [] 32), (13, .ref 54 1), (14, .i .i64 n5), (17, .s (grpS s22 s1 s2)), (19, .b (lessB (grpS s22 s1 s2) s3 || (grpS s22 s1 s2) == s3)), (20, .i .i64 0)], [some (.box 32 (.d 32 (D.agg [D.str s6, D.agg [D.int .i64 n7, D.int .i64 n8], D.slice c9 l10, D.slice c11 l12, D.slice c13 l14, D.slice c15 l16]))), some (.arr 54 l17 false)]⟩)) else none))))))) else (bif pgC n4 then (some (.tuple [.sl 54 .any ((List.take (Int.toNat n4) l17)), .b (decide (n4 < (List.length l17 : Int))), .i .i64 0], [])) else none) := by kernel_rfl
theorem w11_15a (lab : Lab) (s1 : List UInt8) (s2 : List UInt8) (s3 : List UInt8) (n4 : Int) (n5 : Int) (s6 : List UInt8) (b7 : Bool) (n8 : Int) (s9 : List UInt8) (n10 : Int) (n11 : Int) (c12 : Cp) (l13 : List D) (c14 : Cp) (l15 : List D) (c16 : Cp) (l17 : List D) (c18 : Cp) (l19 : List D) (l20 : List D) : evL (Γ mx) W11 lab 11 15 ⟨[(1, .s s1), (2, .s s2), (3, .s s3), (4, .i .i64 n4), (5, .ptr 0 [] 32), (13, .ref 54 1), (14, .i .i64 n5), (17, .s s6), (19, .b b7), (20, .i .i64 n8)], [some (.box 32 (.d 32 (D.agg [D.str s9, D.agg [D.int .i64 n10, D.int .i64 n11], D.slice c12 l13, D.slice c14 l15, D.slice c16 l17, D.slice c18 l19]))), some (.arr 54 l20 false)]⟩ =
  bif decide (n8 < ((l20.length : Int))) then (bif b7 then (lab (todoAt (Γ mx) 11 15) ⟨[(1, .s s1), (2, .s s2), (3, .s s3), (4, .i .i64 n4), (5, .ptr 0 [] 32), (13, .ref 54 1), (14, .i .i64 n5), (17, .s s6), (19, .b true), (20, .i .i64 (IntKind.wrap .i64 (n8 + 1)))], [some (.box 32 (.d 32 (D.agg [D.str s9, D.agg [D.int .i64 n10, D.int .i64 n11], D.slice c12 l13, D.slice c14 l15, D.slice c16 l17, D.slice c18 l19]))), some (.arr 54 l20 false)]⟩) else (bif decide ((0:Int) ≤ n8) && decide (n8 < (l20.length : Int)) then (lGet l20 (Int.toNat n8) fun y21 => dAgg y21 fun y22 => lGet y22 1 fun y23 => dBool y23 fun b24 => bif b24 then (bif decide ((0:Int) ≤ n8) && decide (n8 < (l20.length : Int)) then (lGet l20 (Int.toNat n8) fun y25 => dAgg y25 fun y26 => lGet y26 0 fun y27 => dStr y27 fun s28 => lab (todoAt (Γ mx) 11 15) ⟨[(1, .s s1), (2, .s s2), (3, .s s3), (4, .i .i64 n4), (5, .ptr 0 [] 32), (13, .ref 54 1), (14, .i .i64 n5), (17, .s s6), (19, .b (s28 == s6)), (20, .i .i64 (IntKind.wrap .i64 (n8 + 1)))], [some (.box 32 (.d 32 (D.agg [D.str s9, D.agg [D.int .i64 n10, D.int .i64 n11], D.slice c12 l13, D.slice c14 l15, D.slice c16 l17, D.slice c18 l19]))), some (.arr 54 l20 false)]⟩) else none) else (lab (todoAt (Γ mx) 11 15) ⟨[(1, .s s1), (2, .s s2), (3, .s s3), (4, .i .i64 n4), (5, .ptr 0 [] 32), (13, .ref 54 1), (14, .i .i64 n5), (17, .s s6), (19, .b false), (20, .i .i64 (IntKind.wrap .i64 (n8 + 1)))], [some (.box 32 (.d 32 (D.agg [D.str s9, D.agg [D.int .i64 n10, D.int .i64 n11], D.slice c12 l13, D.slice c14 l15, D.slice c16 l17, D.slice c18 l19]))), some (.arr 54 l20 false)]⟩)) else none)) else (bif !b7 then (bif roomB (l20.length + 1) 152 then (lab (todoAt (Γ mx) 11 5) ⟨[(1, .s s1), (2, .s s2), (3, .s s3), (4, .i .i64 n4), (5, .ptr 0 [] 32), (13, .ref 54 1), (14, .i .i64 (IntKind.wrap .i64 (n5 + 1)))], [some (.box 32 (.d 32 (D.agg [D.str s9, D.agg [D.int .i64 n10, D.int .i64 n11], D.slice c12 l13, D.slice c14 l15, D.slice c16 l17, D.slice c18 l19]))), some (.arr 54 (l20 ++ [D.agg [D.str s6, D.bool true, D.agg [D.int .u64 0, D.bool false, D.int .i64 0, D.int .u64 0, D.agg [D.int .u8 0, D.int .u8 0, D.int .u8 0, D.int .u8 0, D.int .u8 0, D.int .u8 0, D.int .u8 0, D.int .u8 0, D.int .u8 0, D.int .u8 0, D.int .u8 0, D.int .u8 0, D.int .u8 0, D.int .u8 0, D.int .u8 0, D.int .u8 0, D.int .u8 0, D.int .u8 0, D.int .u8 0, D.int .u8 0, D.int .u8 0, D.int .u8 0, D.int .u8 0, D.int .u8 0, D.int .u8 0, D.int .u8 0, D.int .u8 0, D.int .u8 0, D.int .u8 0, D.int .u8 0, D.int .u8 0, D.int .u8 0], D.int .i64 0, D.agg [D.int .i64 0, D.int .i64 0, D.bool false], D.slice .nl []], D.bool false]]) false)]⟩) else none) else (lab (todoAt (Γ mx) 11 5) ⟨[(1, .s s1), (2, .s s2), (3, .s s3), (4, .i .i64 n4), (5, .ptr 0 [] 32), (13, .ref 54 1), (14, .i .i64 (IntKind.wrap .i64 (n5 + 1)))], [some (.box 32 (.d 32 (D.agg [D.str s9, D.agg [D.int .i64 n10, D.int .i64 n11], D.slice c12 l13, D.slice c14 l15, D.slice c16 l17, D.slice c18 l19]))), some (.arr 54 l20 false)]⟩)) := by kernel_rfl
end Go.Proofs.Ytapaenfafjmljaa.V

/- Lists: what the machine over values makes of functions (10,): equations, written by program. -/
namespace Go.Proofs.Ytapaenfafjmljaa.V
open Go
set_option maxRecDepth 100000
set_option linter.unusedVariables false
set_option linter.unusedSimpArgs false
variable {mx : Int}
def W10 : Handle := runS [⟨19, dat (sp2 (fun _ _ => true) fun a b => .b (hpB a b))⟩, ⟨20, dat spRow⟩, ⟨21, dat (sp3 gC fun k p m => .tuple [.s (grpS k p m), .b (grpB k p m)])⟩, ⟨22, xAdd⟩]
theorem w10 (lab : Lab) (bn : List UInt8) (bm : Int) (bd : Int) (brc : Cp) (brs : List D) (bgc : Cp) (bgs : List D) (boc : Cp) (bos : List D) (buc : Cp) (bus : List D) (p : List UInt8) (m : List UInt8) (a : List UInt8) (n : Int) : evF (Γ mx) W10 lab 10 [.d 32 (D.agg [D.str bn, D.agg [D.int .i64 bm, D.int .i64 bd], D.slice brc brs, D.slice bgc bgs, D.slice boc bos, D.slice buc bus]), .s p, .s m, .s a, .i .i64 n] [] =
  bif decide (n < 1) then (some (.tuple [.snil, .b false, .i .i64 1], [])) else (bif decide (n > 100) then (some (.tuple [.snil, .b false, .i .i64 1], [])) else (lab (todoAt (Γ mx) 10 6) ⟨[(1, .s p), (2, .s m), (3, .s a), (13, .ptr 0 [] 69), (14, .s ([] : List UInt8)), (31, .sl 59 boc bos), (32, .i .i64 ((bos.length : Int))), (33, .i .i64 0)], [some (.box 69 (.d 69 (D.agg [D.slice .nl [], D.int .i64 n, D.bool false])))]⟩)) := by kernel_rfl
theorem w10_6a (lab : Lab) (s1 : List UInt8) (s2 : List UInt8) (s3 : List UInt8) (s4 : List UInt8) (c5 : Cp) (l6 : List D) (n7 : Int) (n8 : Int) (n9 : Int) (b10 : Bool) : evL (Γ mx) W10 lab 10 6 ⟨[(1, .s s1), (2, .s s2), (3, .s s3), (13, .ptr 0 [] 69), (14, .s s4), (31, .sl 59 c5 l6), (32, .i .i64 n7), (33, .i .i64 n8)], [some (.box 69 (.d 69 (D.agg [D.slice .nl [], D.int .i64 n9, D.bool b10])))]⟩ =
  bif decide (n8 < n7) then (idx l6 n8 fun y11 => dAgg y11 fun y12 => lCons y12 fun a13 r14 => dStr a13 fun s15 => lCons r14 fun a16 r17 => dSlice a16 fun c18 l19 => lNil r17 (bif !(hpB s15 s1) then (lab (todoAt (Γ mx) 10 6) ⟨[(1, .s s1), (2, .s s2), (3, .s s3), (13, .ptr 0 [] 69), (14, .s s4), (31, .sl 59 c5 l6), (32, .i .i64 n7), (33, .i .i64 (IntKind.wrap .i64 (n8 + 1)))], [some (.box 69 (.d 69 (D.agg [D.slice .nl [], D.int .i64 n9, D.bool b10])))]⟩) else (bif lessB s15 s3 || s15 == s3 then (lab (todoAt (Γ mx) 10 6) ⟨[(1, .s s1), (2, .s s2), (3, .s s3), (13, .ptr 0 [] 69), (14, .s s4), (31, .sl 59 c5 l6), (32, .i .i64 n7), (33, .i .i64 (IntKind.wrap .i64 (n8 + 1)))], [some (.box 69 (.d 69 (D.agg [D.slice .nl [], D.int .i64 n9, D.bool b10])))]⟩) else (bif ((l19.length : Int)) == 0 then (lab (todoAt (Γ mx) 10 6) ⟨[(1, .s s1), (2, .s s2), (3, .s s3), (13, .ptr 0 [] 69), (14, .s s4), (31, .sl 59 c5 l6), (32, .i .i64 n7), (33, .i .i64 (IntKind.wrap .i64 (n8 + 1)))], [some (.box 69 (.d 69 (D.agg [D.slice .nl [], D.int .i64 n9, D.bool b10])))]⟩) else (idx l19 (IntKind.wrap .i64 (((l19.length : Int)) - 1)) fun y20 => dAgg y20 fun y21 => lCons y21 fun a22 r23 => dInt .u64 a22 fun n24 => lCons r23 fun a25 r26 => dBool a25 fun b27 => lCons r26 fun a28 r29 => dInt .i64 a28 fun n30 => lCons r29 fun a31 r32 => dInt .u64 a31 fun n33 => lCons r32 fun a34 r35 => dAgg a34 fun y36 => lCons r35 fun a37 r38 => dInt .i64 a37 fun n39 => lCons r38 fun a40 r41 => dAgg a40 fun y42 => lCons y42 fun a43 r44 => dInt .i64 a43 fun n45 => lCons r44 fun a46 r47 => dInt .i64 a46 fun n48 => lCons r47 fun a49 r50 => dBool a49 fun b51 => lNil r50 (lCons r41 fun a52 r53 => dSlice a52 fun c54 l55 => lNil r53 (bif b27 then (lab (todoAt (Γ mx) 10 6) ⟨[(1, .s s1), (2, .s s2), (3, .s s3), (13, .ptr 0 [] 69), (14, .s s4), (31, .sl 59 c5 l6), (32, .i .i64 n7), (33, .i .i64 (IntKind.wrap .i64 (n8 + 1)))], [some (.box 69 (.d 69 (D.agg [D.slice .nl [], D.int .i64 n9, D.bool b10])))]⟩) else (bif vC (D.agg [D.int .u64 n24, D.bool b27, D.int .i64 n30, D.int .u64 n33, D.agg y36, D.int .i64 n39, D.agg [D.int .i64 n45, D.int .i64 n48, D.bool b51], D.slice c54 l55]) then (bif gC s15 s1 s2 then (bif grpB s15 s1 s2 then (bif (grpS s15 s1 s2) == s4 then (lab (todoAt (Γ mx) 10 6) ⟨[(1, .s s1), (2, .s s2), (3, .s s3), (13, .ptr 0 [] 69), (14, .s s4), (31, .sl 59 c5 l6), (32, .i .i64 n7), (33, .i .i64 (IntKind.wrap .i64 (n8 + 1)))], [some (.box 69 (.d 69 (D.agg [D.slice .nl [], D.int .i64 n9, D.bool b10])))]⟩) else (bif lessB (grpS s15 s1 s2) s3 || (grpS s15 s1 s2) == s3 then (lab (todoAt (Γ mx) 10 6) ⟨[(1, .s s1), (2, .s s2), (3, .s s3), (13, .ptr 0 [] 69), (14, .s s4), (31, .sl 59 c5 l6), (32, .i .i64 n7), (33, .i .i64 (IntKind.wrap .i64 (n8 + 1)))], [some (.box 69 (.d 69 (D.agg [D.slice .nl [], D.int .i64 n9, D.bool b10])))]⟩) else (bif !((0 : Int) == n9) then (lab (todoAt (Γ mx) 10 6) ⟨[(1, .s s1), (2, .s s2), (3, .s s3), (13, .ptr 0 [] 69), (14, .s (grpS s15 s1 s2)), (31, .sl 59 c5 l6), (32, .i .i64 n7), (33, .i .i64 (IntKind.wrap .i64 (n8 + 1)))], [some (.box 69 (.agg 69 [.ref 54 1, .i .i64 n9, .b b10])), some (.arr 54 ([D.agg [D.str (grpS s15 s1 s2), D.bool true, D.agg [D.int .u64 0, D.bool false, D.int .i64 0, D.int .u64 0, D.agg [D.int .u8 0, D.int .u8 0, D.int .u8 0, D.int .u8 0, D.int .u8 0, D.int .u8 0, D.int .u8 0, D.int .u8 0, D.int .u8 0, D.int .u8 0, D.int .u8 0, D.int .u8 0, D.int .u8 0, D.int .u8 0, D.int .u8 0, D.int .u8 0, D.int .u8 0, D.int .u8 0, D.int .u8 0, D.int .u8 0, D.int .u8 0, D.int .u8 0, D.int .u8 0, D.int .u8 0, D.int .u8 0, D.int .u8 0, D.int .u8 0, D.int .u8 0, D.int .u8 0, D.int .u8 0, D.int .u8 0, D.int .u8 0], D.int .i64 0, D.agg [D.int .i64 0, D.int .i64 0, D.bool false], D.slice .nl []], D.bool false]]) false)]⟩) else none))) else (bif !((0 : Int) == n9) then (lab (todoAt (Γ mx) 10 6) ⟨[(1, .s s1), (2, .s s2), (3, .s s3), (13, .ptr 0 [] 69), (14, .s s4), (31, .sl 59 c5 l6), (32, .i .i64 n7), (33, .i .i64 (IntKind.wrap .i64 (n8 + 1)))], [some (.box 69 (.agg 69 [.ref 54 1, .i .i64 n9, .b b10])), some (.arr 54 ([D.agg [D.str s15, D.bool false, D.agg [D.int .u64 n24, D.bool b27, D.int .i64 n30, D.int .u64 n33, D.agg y36, D.int .i64 n39, D.agg [D.int .i64 n45, D.int .i64 n48, D.bool b51], D.slice .cl l55], D.bool true]]) false)]⟩) else none)) else none) else none)))))))) else (some (.tuple [.sl 54 .nl [], .b b10, .i .i64 0], [])) := by kernel_rfl
theorem w10_6b (lab : Lab) (s1 : List UInt8) (s2 : List UInt8) (s3 : List UInt8) (s4 : List UInt8) (c5 : Cp) (l6 : List D) (n7 : Int) (n8 : Int) (n9 : Int) (b10 : Bool) (l11 : List D) : evL (Γ mx) W10 lab 10 6 ⟨[(1, .s s1), (2, .s s2), (3, .s s3), (13, .ptr 0 [] 69), (14, .s s4), (31, .sl 59 c5 l6), (32, .i .i64 n7), (33, .i .i64 n8)], [some (.box 69 (.agg 69 [.ref 54 1, .i .i64 n9, .b b10])), some (.arr 54 l11 false)]⟩ =
  bif decide (n8 < n7) then (idx l6 n8 fun y12 => dAgg y12 fun y13 => lCons y13 fun a14 r15 => dStr a14 fun s16 => lCons r15 fun a17 r18 => dSlice a17 fun c19 l20 => lNil r18 (bif !(hpB s16 s1) then (lab (todoAt (Γ mx) 10 6) ⟨[(1, .s s1), (2, .s s2), (3, .s s3), (13, .ptr 0 [] 69), (14, .s s4), (31, .sl 59 c5 l6), (32, .i .i64 n7), (33, .i .i64 (IntKind.wrap .i64 (n8 + 1)))], [some (.box 69 (.agg 69 [.ref 54 1, .i .i64 n9, .b b10])), some (.arr 54 l11 false)]⟩) else (bif lessB s16 s3 || s16 == s3 then (lab (todoAt (Γ mx) 10 6) ⟨[(1, .s s1), (2, .s s2), (3, .s s3), (13, .ptr 0 [] 69), (14, .s s4), (31, .sl 59 c5 l6), (32, .i .i64 n7), (33, .i .i64 (IntKind.wrap .i64 (n8 + 1)))], [some (.box 69 (.agg 69 [.ref 54 1, .i .i64 n9, .b b10])), some (.arr 54 l11 false)]⟩) else (bif ((l20.length : Int)) == 0 then (lab (todoAt (Γ mx) 10 6) ⟨[(1, .s s1), (2, .s s2), (3, .s s3), (13, .ptr 0 [] 69), (14, .s s4), (31, .sl 59 c5 l6), (32, .i .i64 n7), (33, .i .i64 (IntKind.wrap .i64 (n8 + 1)))], [some (.box 69 (.agg 69 [.ref 54 1, .i .i64 n9, .b b10])), some (.arr 54 l11 false)]⟩) else (idx l20 (IntKind.wrap .i64 (((l20.length : Int)) - 1)) fun y21 => dAgg y21 fun y22 => lCons y22 fun a23 r24 => dInt .u64 a23 fun n25 => lCons r24 fun a26 r27 => dBool a26 fun b28 => lCons r27 fun a29 r30 => dInt .i64 a29 fun n31 => lCons r30 fun a32 r33 => dInt .u64 a32 fun n34 => lCons r33 fun a35 r36 => dAgg a35 fun y37 => lCons r36 fun a38 r39 => dInt .i64 a38 fun n40 => lCons r39 fun a41 r42 => dAgg a41 fun y43 => lCons y43 fun a44 r45 => dInt .i64 a44 fun n46 => lCons r45 fun a47 r48 => dInt .i64 a47 fun n49 => lCons r48 fun a50 r51 => dBool a50 fun b52 => lNil r51 (lCons r42 fun a53 r54 => dSlice a53 fun c55 l56 => lNil r54 (bif b28 then (lab (todoAt (Γ mx) 10 6) ⟨[(1, .s s1), (2, .s s2), (3, .s s3), (13, .ptr 0 [] 69), (14, .s s4), (31, .sl 59 c5 l6), (32, .i .i64 n7), (33, .i .i64 (IntKind.wrap .i64 (n8 + 1)))], [some (.box 69 (.agg 69 [.ref 54 1, .i .i64 n9, .b b10])), some (.arr 54 l11 false)]⟩) else (bif vC (D.agg [D.int .u64 n25, D.bool b28, D.int .i64 n31, D.int .u64 n34, D.agg y37, D.int .i64 n40, D.agg [D.int .i64 n46, D.int .i64 n49, D.bool b52], D.slice c55 l56]) then (bif gC s16 s1 s2 then (bif grpB s16 s1 s2 then (bif (grpS s16 s1 s2) == s4 then (lab (todoAt (Γ mx) 10 6) ⟨[(1, .s s1), (2, .s s2), (3, .s s3), (13, .ptr 0 [] 69), (14, .s s4), (31, .sl 59 c5 l6), (32, .i .i64 n7), (33, .i .i64 (IntKind.wrap .i64 (n8 + 1)))], [some (.box 69 (.agg 69 [.ref 54 1, .i .i64 n9, .b b10])), some (.arr 54 l11 false)]⟩) else (bif lessB (grpS s16 s1 s2) s3 || (grpS s16 s1 s2) == s3 then (lab (todoAt (Γ mx) 10 6) ⟨[(1, .s s1), (2, .s s2), (3, .s s3), (13, .ptr 0 [] 69), (14, .s s4), (31, .sl 59 c5 l6), (32, .i .i64 n7), (33, .i .i64 (IntKind.wrap .i64 (n8 + 1)))], [some (.box 69 (.agg 69 [.ref 54 1, .i .i64 n9, .b b10])), some (.arr 54 l11 false)]⟩) else (bif roomB (List.length l11 + 1) 152 then (bif !(!((List.length l11 : Int) == n9)) then (some (.tuple [.sl 54 .any (bif ((List.length l11 : Int) == n9) then l11 else l11 ++ [D.agg [D.str (grpS s16 s1 s2), D.bool true, D.agg [D.int .u64 0, D.bool false, D.int .i64 0, D.int .u64 0, D.agg [D.int .u8 0, D.int .u8 0, D.int .u8 0, D.int .u8 0, D.int .u8 0, D.int .u8 0, D.int .u8 0, D.int .u8 0, D.int .u8 0, D.int .u8 0, D.int .u8 0, D.int .u8 0, D.int .u8 0, D.int .u8 0, D.int .u8 0, D.int .u8 0, D.int .u8 0, D.int .u8 0, D.int .u8 0, D.int .u8 0, D.int .u8 0, D.int .u8 0, D.int .u8 0, D.int .u8 0, D.int .u8 0, D.int .u8 0, D.int .u8 0, D.int .u8 0, D.int .u8 0, D.int .u8 0, D.int .u8 0, D.int .u8 0], D.int .i64 0, D.agg [D.int .i64 0, D.int .i64 0, D.bool false], D.slice .nl []], D.bool false]]), .b (b10 || ((List.length l11 : Int) == n9)), .i .i64 0], [])) else (lab (todoAt (Γ mx) 10 6) ⟨[(1, .s s1), (2, .s s2), (3, .s s3), (13, .ptr 0 [] 69), (14, .s (grpS s16 s1 s2)), (31, .sl 59 c5 l6), (32, .i .i64 n7), (33, .i .i64 (IntKind.wrap .i64 (n8 + 1)))], [some (.box 69 (.agg 69 [.ref 54 1, .i .i64 n9, .b (b10 || ((List.length l11 : Int) == n9))])), some (.arr 54 (bif ((List.length l11 : Int) == n9) then l11 else l11 ++ [D.agg [D.str (grpS s16 s1 s2), D.bool true, D.agg [D.int .u64 0, D.bool false, D.int .i64 0, D.int .u64 0, D.agg [D.int .u8 0, D.int .u8 0, D.int .u8 0, D.int .u8 0, D.int .u8 0, D.int .u8 0, D.int .u8 0, D.int .u8 0, D.int .u8 0, D.int .u8 0, D.int .u8 0, D.int .u8 0, D.int .u8 0, D.int .u8 0, D.int .u8 0, D.int .u8 0, D.int .u8 0, D.int .u8 0, D.int .u8 0, D.int .u8 0, D.int .u8 0, D.int .u8 0, D.int .u8 0, D.int .u8 0, D.int .u8 0, D.int .u8 0, D.int .u8 0, D.int .u8 0, D.int .u8 0, D.int .u8 0, D.int .u8 0, D.int .u8 0], D.int .i64 0, D.agg [D.int .i64 0, D.int .i64 0, D.bool false], D.slice .nl []], D.bool false]]) false)]⟩)) else none))) else (bif roomB (List.length l11 + 1) 152 then (bif !(!((List.length l11 : Int) == n9)) then (some (.tuple [.sl 54 .any (bif ((List.length l11 : Int) == n9) then l11 else l11 ++ [D.agg [D.str s16, D.bool false, D.agg [D.int .u64 n25, D.bool b28, D.int .i64 n31, D.int .u64 n34, D.agg y37, D.int .i64 n40, D.agg [D.int .i64 n46, D.int .i64 n49, D.bool b52], D.slice .cl l56], D.bool true]]), .b (b10 || ((List.length l11 : Int) == n9)), .i .i64 0], [])) else (lab (todoAt (Γ mx) 10 6) ⟨[(1, .s s1), (2, .s s2), (3, .s s3), (13, .ptr 0 [] 69), (14, .s s4), (31, .sl 59 c5 l6), (32, .i .i64 n7), (33, .i .i64 (IntKind.wrap .i64 (n8 + 1)))], [some (.box 69 (.agg 69 [.ref 54 1, .i .i64 n9, .b (b10 || ((List.length l11 : Int) == n9))])), some (.arr 54 (bif ((List.length l11 : Int) == n9) then l11 else l11 ++ [D.agg [D.str s16, D.bool false, D.agg [D.int .u64 n25, D.bool b28, D.int .i64 n31, D.int .u64 n34, D.agg y37, D.int .i64 n40, D.agg [D.int .i64 n46, D.int .i64 n49, D.bool b52], D.slice .cl l56], D.bool true]]) false)]⟩)) else none)) else none) else none)))))))) else (some (.tuple [.sl 54 .any l11, .b b10, .i .i64 0], [])) := by kernel_rfl
end Go.Proofs.Ytapaenfafjmljaa.V

/- Lists: a key's group, twice: contracts. -/
namespace Go.Proofs.Ytapaenfafjmljaa.V
open Go
set_option maxRecDepth 100000
set_option linter.unusedVariables false
set_option linter.unusedSimpArgs false
variable {mx : Int}
def resG (o : Option Tx) : AV × Objs := (.tuple [.s (o.getD []), .b o.isSome], [])
theorem gC_eq {k p m : Tx} (h : gC k p m = true) : k.length ≤ 4194304 ∧ p.length ≤ 4194304 ∧ m.length ≤ 4194304 := by
  unfold gC short at h
  simpa using h
theorem W24_ok : CallsOK (Γ mx) W24 := specs_ok (.cons (sp2_ok k36) .nil)
theorem g24_4 {k m : Tx} (hk : k.length ≤ 4194304) (hm : m.length ≤ 4194304) : ∀ (r pre : Tx) (i : Int), k = pre ++ r → i = (pre.length : Int) →
    Goes (Γ mx) W24 24 4 ⟨[(0, .s k), (2, .s m), (8, .i .i64 i)], []⟩ (resG ((gz r m).map (pre ++ ·)))
  | [], pre, i, he, hi => by
    subst hi
    exact Goes.er (er_of (fun n => w24_4a _ k m _) (er_f (decide_eq_false (by rw [he]; simp)) (er_is rfl)))
  | b :: r, pre, i, he, hi => by
    subst hi
    have hlen : k.length = pre.length + (r.length + 1) := by rw [he]; simp
    have w1 : IntKind.wrap .i64 ((pre.length : Int) + 1) = (pre.length : Int) + 1 := wrapI (by omega) (by omega)
    have e1 : List.take (k.length - Int.toNat (pre.length : Int)) (List.drop (Int.toNat (pre.length : Int)) k) = b :: r := by
      rw [Int.toNat_natCast, show List.drop pre.length k = b :: r by rw [he, List.drop_left], List.take_of_length_le (by rw [hlen]; simp)]
    have e2 : List.take (Int.toNat (pre.length : Int) - 0) (List.drop 0 k) = pre := by
      rw [Int.toNat_natCast, Nat.sub_zero, List.drop_zero, he, List.take_left]
    have c1 : (decide ((0 : Int) ≤ (pre.length : Int)) && decide ((pre.length : Int) ≤ (k.length : Int))) = true := by rw [decide_eq_true (by omega), decide_eq_true (by omega)]; rfl
    refine Goes.er (er_of (fun n => w24_4a _ k m _) ?_)
    rw [e1, e2, w1]
    refine er_t (decide_eq_true (by omega)) (er_t c1 ?_)
    have hgz : gz (b :: r) m = if m.isPrefixOf (b :: r) = true then some m else (gz r m).map (b :: ·) := rfl
    refine er_if (fun h => ?_) (fun h => ?_)
    · rw [hp_pre] at h
      refine er_t c1 (er_t (decide_eq_true (by unfold maxStr; omega)) (er_is ?_))
      rw [hgz, if_pos h]; rfl
    · rw [hp_pre] at h
      rw [hgz, if_neg (by rw [h]; simp), Option.map_map]
      have nx := er_lab (g24_4 hk hm r (pre ++ [b]) ((pre.length : Int) + 1) (by rw [he]; simp) (by simp))
      have : ((fun x => (pre ++ [b]) ++ x) : Tx → Tx) = ((fun x => pre ++ x) ∘ fun x => b :: x) := by funext x; simp
      rw [this] at nx
      exact nx
theorem res_goes {f : FuncId} {args : List AV} {k p m : Tx} {H : Handle} {o : Option Tx} (ho : grpO k p m = o) (h : RetX (Γ mx) f args [] (resG o).1 []) : RetX (Γ mx) f args [] (.tuple [.s (grpS k p m), .b (grpB k p m)]) [] := by
  unfold grpS grpB
  rw [ho]; exact h
theorem c24' (k p m : Tx) (h : gC k p m = true) : RetX (Γ mx) 24 [.s k, .s p, .s m] [] (.tuple [.s (grpS k p m), .b (grpB k p m)]) [] := by
  obtain ⟨hk, hp, hm⟩ := gC_eq h
  by_cases h1 : m = []
  · refine res_goes (H := W24) (o := none) (by unfold grpO; rw [if_pos h1]) (ret_goes (Γ := Γ mx) hP hZ W24_ok (by kernel_rfl) ⟨0, ?_⟩)
    rw [w24, show (m == []) = true by rw [h1]; rfl]; rfl
  · cases h2 : hpB k p with
    | false =>
      refine res_goes (H := W24) (o := none) (by unfold grpO; rw [if_neg h1, ← hp_pre, h2]; simp) (ret_goes (Γ := Γ mx) hP hZ W24_ok (by kernel_rfl) ⟨0, ?_⟩)
      rw [w24, show (m == []) = false from beq_eq_false_iff_ne.2 h1, h2]; rfl
    | true =>
      have h3 : p.isPrefixOf k = true := by rw [← hp_pre]; exact h2
      have e := beg_drop h3
      obtain ⟨n, hn⟩ := g24_4 (mx := mx) hk hm (k.drop p.length) p (p.length : Int) e rfl
      refine res_goes (H := W24) (o := (gz (k.drop p.length) m).map (p ++ ·)) (by unfold grpO; rw [if_neg h1, if_pos h3]) (ret_goes (Γ := Γ mx) hP hZ W24_ok (by kernel_rfl) ⟨n, ?_⟩)
      rw [w24, show (m == []) = false from beq_eq_false_iff_ne.2 h1, h2]
      exact hn
theorem W21_ok : CallsOK (Γ mx) W21 := specs_ok (.cons (sp2_ok k31) (.cons spCutG_ok .nil))
theorem cut_lenA (s p : Tx) : (Lib.cut s p).1.length ≤ s.length := by
  unfold Lib.cut
  split
  · show (List.take _ s).length ≤ s.length; rw [List.length_take]; omega
  · exact Nat.le_refl _
theorem c21' (k p m : Tx) (h : gC k p m = true) : RetX (Γ mx) 21 [.s k, .s p, .s m] [] (.tuple [.s (grpS k p m), .b (grpB k p m)]) [] := by
  obtain ⟨hk, hp, hm⟩ := gC_eq h
  cases h2 : hpB k p with
  | false =>
    refine res_goes (H := W21) (o := none) (by unfold grpO; rw [← hp_pre, h2]; simp) (ret_goes (Γ := Γ mx) hP hZ W21_ok (by kernel_rfl) ⟨0, ?_⟩)
    rw [w21, h2]; rfl
  | true =>
    by_cases h1 : m = []
    · refine res_goes (H := W21) (o := none) (by unfold grpO; rw [if_pos h1]) (ret_goes (Γ := Γ mx) hP hZ W21_ok (by kernel_rfl) ⟨0, ?_⟩)
      rw [w21, h2, show (m == []) = true by rw [h1]; rfl]; rfl
    · have h3 : p.isPrefixOf k = true := by rw [← hp_pre]; exact h2
      have e : cpS k p = k.drop p.length := by unfold cpS; rw [h2]; rfl
      have hl : (k.drop p.length).length ≤ 4194304 := by rw [List.length_drop]; omega
      have hs : s32 (k.drop p.length) = true := by unfold s32; exact decide_eq_true (by omega)
      have hc := cut_lenA (k.drop p.length) m
      have hz := gz_cut (k.drop p.length) m h1
      cases hb : (Lib.cut (k.drop p.length) m).2.2 with
      | false =>
        rw [hb, if_neg (by simp)] at hz
        refine res_goes (H := W21) (o := none) (by unfold grpO; rw [if_neg h1, if_pos h3, hz]; rfl) (ret_goes (Γ := Γ mx) hP hZ W21_ok (by kernel_rfl) ⟨0, ?_⟩)
        rw [w21, h2, show (m == []) = false from beq_eq_false_iff_ne.2 h1, e, hs, hb]; rfl
      | true =>
        rw [hb, if_pos rfl] at hz
        refine res_goes (H := W21) (o := some (p ++ ((Lib.cut (k.drop p.length) m).1 ++ m))) (by unfold grpO; rw [if_neg h1, if_pos h3, hz]; rfl) (ret_goes (Γ := Γ mx) hP hZ W21_ok (by kernel_rfl) ⟨0, ?_⟩)
        rw [w21, h2, show (m == []) = false from beq_eq_false_iff_ne.2 h1, e, hs, hb, decide_eq_true (show p.length + (Lib.cut (k.drop p.length) m).1.length ≤ maxStr by unfold maxStr; omega),
          decide_eq_true (show (p ++ (Lib.cut (k.drop p.length) m).1).length + m.length ≤ maxStr by rw [List.length_append]; unfold maxStr; omega), ← List.append_assoc]
        rfl
end Go.Proofs.Ytapaenfafjmljaa.V

/- Lists: list.Keys: its contract. -/
namespace Go.Proofs.Ytapaenfafjmljaa.V
open Go
set_option maxRecDepth 100000
set_option linter.unusedVariables false
set_option linter.unusedSimpArgs false
variable {mx : Int}
theorem W10_ok : CallsOK (Γ mx) W10 := specs_ok (.cons (sp2_ok c95) (.cons spRow_ok (.cons (sp3_ok c21') (.cons xAdd_ok .nil))))
/-! ### one step -/
section
variable {K : Kit Ver} {af : Tx} {n : Nat} {o : D} {os : List D} {last : Tx} {L : List (Rw Ver)} {r : Rw Ver}
theorem goK_skip (h : cand K af (kvO o) = none) : goK K af n (o :: os) last L = goK K af n os last L := by rw [goK, h]
theorem goK_same (h : cand K af (kvO o) = some r) (h1 : r.2.1 = true ∧ r.1 = last) : goK K af n (o :: os) last L = goK K af n os last L := by rw [goK, h]; simp only; rw [if_pos h1]
theorem goK_full (h : cand K af (kvO o) = some r) (h1 : ¬ (r.2.1 = true ∧ r.1 = last)) (h2 : L.length = n) : goK K af n (o :: os) last L = (L, true) := by rw [goK, h]; simp only; rw [if_neg h1, if_pos h2]
theorem goK_add (h : cand K af (kvO o) = some r) (h1 : ¬ (r.2.1 = true ∧ r.1 = last)) (h2 : L.length ≠ n) : goK K af n (o :: os) last L = goK K af n os (if r.2.1 = true then r.1 else last) (L ++ [r]) := by rw [goK, h]; simp only; rw [if_neg h1, if_neg h2]
end
section
variable {p m a yk : Tx} {yc : Cp} {vl : List Ver} {v : Ver}
theorem lastV_eq (h : 0 < vl.length) : ∃ v, lastV vl = v ∧ (vl.map vD)[((vl.length : Int) - 1).toNat]? = some (vD v) ∧ v ∈ vl := by
  have hl : vl.length - 1 < vl.length := by omega
  refine ⟨vl[vl.length - 1], ?_, ?_, List.getElem_mem hl⟩
  · unfold lastV
    rw [List.getLast?_eq_getElem?, List.getElem?_eq_getElem hl]; rfl
  · rw [List.getElem?_map, show ((vl.length : Int) - 1).toNat = vl.length - 1 by omega, List.getElem?_eq_getElem hl]; rfl
theorem kvO_eq (hv : vsOf (vl.map vD) = vl) (h : lastV vl = v) : kvO (D.agg [D.str yk, D.slice yc (vl.map vD)]) = (yk, v) := by
  show (yk, lastV (vsOf (vl.map vD))) = _
  rw [hv, h]
theorem cd_pre (h : hpB yk p = false) : cand (kitV p m) a (yk, v) = none := if_neg fun q => by
  have := q.1
  rw [show (kitV p m).pre (yk, v).1 = hpB yk p from rfl, h] at this; exact absurd this (by simp)
theorem cd_af (h : lessB a yk = false) : cand (kitV p m) a (yk, v) = none := if_neg fun q => by
  have := q.2.1
  rw [show lessB a (yk, v).1 = lessB a yk from rfl, h] at this; exact absurd this (by simp)
theorem cd_mr (h : v.mr = true) : cand (kitV p m) a (yk, v) = none := if_neg fun q => by
  have := q.2.2
  rw [show (kitV p m).mark (yk, v).2 = v.mr from rfl, h] at this; exact absurd this (by simp)
theorem cd_key (h1 : hpB yk p = true) (h2 : lessB a yk = true) (h3 : v.mr = false) (h : grpO yk p m = none) : cand (kitV p m) a (yk, v) = some (yk, false, v) := by
  have hc : (kitV p m).pre (yk, v).1 = true ∧ lessB a (yk, v).1 = true ∧ (kitV p m).mark (yk, v).2 = false := ⟨h1, h2, h3⟩
  unfold cand
  rw [if_pos hc, show (kitV p m).G (yk, v).1 = none from h]
theorem cd_grp {g : Tx} (h1 : hpB yk p = true) (h2 : lessB a yk = true) (h3 : v.mr = false) (h : grpO yk p m = some g) (h4 : lessB a g = true) : cand (kitV p m) a (yk, v) = some (g, true, v00) := by
  have hc : (kitV p m).pre (yk, v).1 = true ∧ lessB a (yk, v).1 = true ∧ (kitV p m).mark (yk, v).2 = false := ⟨h1, h2, h3⟩
  unfold cand
  rw [if_pos hc, show (kitV p m).G (yk, v).1 = some g from h]
  simp only
  rw [if_pos h4]; rfl
theorem cd_grpN {g : Tx} (h : grpO yk p m = some g) (h4 : lessB a g = false) : cand (kitV p m) a (yk, v) = none := by
  unfold cand
  split
  · rw [show (kitV p m).G (yk, v).1 = some g from h]
    simp only
    rw [if_neg (by rw [h4]; simp)]
  · rfl
theorem grpB_some {g : Tx} (h : grpO yk p m = some g) : grpB yk p m = true ∧ grpS yk p m = g := by
  unfold grpB grpS
  rw [h]; exact ⟨rfl, rfl⟩
theorem grpB_none (h : grpO yk p m = none) : grpB yk p m = false := by
  unfold grpB
  rw [h]; rfl
end
theorem not_gt {a k : Tx} (h : (lessB k a || k == a) = false) : lessB a k = true := by rw [le_less] at h; simpa using h
theorem is_le {a k : Tx} (h : (lessB k a || k == a) = true) : lessB a k = false := by rw [le_less] at h; simpa using h
/-! ### the loop -/
def k6S (p m a last : Tx) (c : Cp) (os : List D) (n i : Int) : List D → St
  | [] => ⟨[(1, .s p), (2, .s m), (3, .s a), (13, .ptr 0 [] 69), (14, .s last), (31, .sl 59 c os), (32, .i .i64 ((os.length : Int))), (33, .i .i64 i)], [some (.box 69 (.d 69 (D.agg [D.slice .nl [], D.int .i64 n, D.bool false])))]⟩
  | x :: l => ⟨[(1, .s p), (2, .s m), (3, .s a), (13, .ptr 0 [] 69), (14, .s last), (31, .sl 59 c os), (32, .i .i64 ((os.length : Int))), (33, .i .i64 i)], [some (.box 69 (.agg 69 [.ref 54 1, .i .i64 n, .b false])), some (.arr 54 (x :: l) false)]⟩
def resK (x : List (Rw Ver) × Bool) : AV × Objs := resV (x.1.map rowP, x.2)
theorem g10_6 {p m a : Tx} {c : Cp} {os : List D} {n : Int} (hn : 1 ≤ n) (hn2 : n ≤ 100) (hos : os.all oC = true) (hol : os.length ≤ 8388608) (hne : os.all (fun o => decide (0 < (oVs o).length)) = true) (hsp : short p = true) (hsm : short m = true) :
    ∀ (rest pre : List D) (L : List (Rw Ver)) (last : Tx) (i : Int), os = pre ++ rest → i = (pre.length : Int) → L.length ≤ n.toNat →
    Goes (Γ mx) W10 10 6 (k6S p m a last c os n i (L.map rowP)) (resK (goK (kitV p m) a n.toNat rest last L))
  | [], pre, L, last, i, he, hi, hL => by
    subst hi
    cases L with
    | nil => exact Goes.er (er_of (fun k => w10_6a _ p m a last c os _ _ n false) (er_f (decide_eq_false (by rw [he]; simp)) (er_is rfl)))
    | cons x l => exact Goes.er (er_of (fun k => w10_6b _ p m a last c os _ _ n false ((x :: l).map rowP)) (er_f (decide_eq_false (by rw [he]; simp)) (er_is rfl)))
  | y :: r, pre, L, last, i, he, hi, hL => by
    subst hi
    have hlen : os.length = pre.length + (r.length + 1) := by rw [he]; simp
    have hg : os[((pre.length : Nat) : Int).toNat]? = some y := by rw [he]; exact get_mid pre y r
    have w1 : IntKind.wrap .i64 ((pre.length : Int) + 1) = (pre.length : Int) + 1 := wrapI (by omega) (by omega)
    have nx := fun L' last' hL' => g10_6 (p := p) (m := m) (a := a) (c := c) hn hn2 hos hol hne hsp hsm r (pre ++ [y]) L' last' ((pre.length : Int) + 1) (by rw [he]; simp) (by simp) hL'
    have hy0 : 0 < (oVs y).length := of_decide_eq_true (List.all_eq_true.1 hne y (by rw [he]; simp))
    obtain ⟨yk, yc, vs, hye, hyk, hvs⟩ := oC_ex (List.all_eq_true.1 hos y (by rw [he]; simp))
    obtain ⟨hvl, hva⟩ := vsC_eq hvs
    obtain ⟨vl, rfl, hvo⟩ := vs_ex hva
    subst hye
    have hy0 : 0 < (vl.map vD).length := hy0
    rw [List.length_map] at hvl hy0
    obtain ⟨v, hlv, hgv, hvm⟩ := lastV_eq hy0
    have hkv := kvO_eq (yk := yk) (yc := yc) hvo hlv
    have hvC : vC (vD v) = true := List.all_eq_true.1 hva _ (List.mem_map.2 ⟨v, hvm, rfl⟩)
    have hgC : gC yk p m = true := by unfold gC; rw [hyk, hsp, hsm]; rfl
    have w2 : IntKind.wrap .i64 (((vl.map vD).length : Int) - 1) = (vl.length : Int) - 1 := by rw [List.length_map]; exact wrapI (by omega) (by omega)
    have hz : (((vl.map vD).length : Int) == 0) = false := by rw [List.length_map, beq_eq_false_iff_ne]; omega
    cases L with
    | nil =>
      refine Goes.er (er_of (fun k => w10_6a _ p m a last c os _ _ n false) ?_)
      rw [w1]
      refine er_t (decide_eq_true (by omega)) (er_idx (by omega) hg (er_agg (er_lc (er_s (er_lc (er_sl (er_ln ?_)))))))
      rw [w2]
      refine er_if (fun h1 => ?_) (fun h1 => ?_)
      · have h1 : hpB yk p = false := by simpa using h1
        rw [goK_skip (by rw [hkv]; exact cd_pre h1)]; exact er_lab (nx [] last hL)
      have h1 : hpB yk p = true := by simpa using h1
      refine er_if (fun h2 => ?_) (fun h2 => ?_)
      · rw [goK_skip (by rw [hkv]; exact cd_af (is_le h2))]; exact er_lab (nx [] last hL)
      have h2 := not_gt h2
      refine er_f hz (er_idx (by omega) hgv (er_agg (er_lc (er_u (er_lc (er_b (er_lc (er_i (er_lc (er_u (er_lc (er_agg (er_lc (er_i (er_lc (er_agg (er_lc (er_i (er_lc (er_i (er_lc (er_b (er_ln (er_lc (er_sl (er_ln ?_))))))))))))))))))))))))))
      refine er_if (fun h3 => ?_) (fun h3 => ?_)
      · rw [goK_skip (by rw [hkv]; exact cd_mr h3)]; exact er_lab (nx [] last hL)
      refine er_t hvC (er_t hgC ?_)
      cases hG : grpO yk p m with
      | none =>
        have hc : cand (kitV p m) a (kvO (D.agg [D.str yk, D.slice yc (vl.map vD)])) = some (yk, false, v) := by rw [hkv]; exact cd_key h1 h2 h3 hG
        rw [grpB_none hG]
        refine er_f rfl (?_)
        refine er_t (by simp; omega) (er_lab ?_)
        rw [goK_add (r := (yk, false, v)) hc (by simp) (by simp; omega)]
        exact nx [(yk, false, v)] last (by simp; omega)
      | some g =>
        obtain ⟨hg1, hg2⟩ := grpB_some hG
        rw [hg1, hg2]
        refine er_t rfl ?_
        cases h4 : lessB a g with
        | false =>
          rw [goK_skip (by rw [hkv]; exact cd_grpN hG h4)]
          refine er_if (fun _ => er_lab (nx [] last hL)) (fun _ => er_t (by rw [le_less, h4]; rfl) (er_lab (nx [] last hL)))
        | true =>
        have hc : cand (kitV p m) a (kvO (D.agg [D.str yk, D.slice yc (vl.map vD)])) = some (g, true, v00) := by rw [hkv]; exact cd_grp h1 h2 h3 hG h4
        refine er_if (fun h5 => ?_) (fun h5 => ?_)
        · rw [goK_same hc ⟨rfl, eq_of_beq h5⟩]; exact er_lab (nx [] last hL)
        have hgl : g ≠ last := fun q => by rw [q, beq_self_eq_true] at h5; exact absurd h5 (by simp)
        refine er_f (by rw [le_less, h4]; rfl) ?_
        refine er_t (by simp; omega) (er_lab ?_)
        rw [goK_add (r := (g, true, v00)) hc (fun q => hgl q.2) (by simp; omega)]
        exact nx [(g, true, v00)] g (by simp; omega)
    | cons x l =>
      have hml : (List.map rowP (x :: l)).length = (x :: l).length := List.length_map _
      have hlen1 : (x :: l).length ≤ n.toNat := hL
      refine Goes.er (er_of (fun k => w10_6b _ p m a last c os _ _ n false ((x :: l).map rowP)) ?_)
      rw [w1]
      refine er_t (decide_eq_true (by omega)) (er_idx (by omega) hg (er_agg (er_lc (er_s (er_lc (er_sl (er_ln ?_)))))))
      rw [w2]
      refine er_if (fun h1 => ?_) (fun h1 => ?_)
      · have h1 : hpB yk p = false := by simpa using h1
        rw [goK_skip (by rw [hkv]; exact cd_pre h1)]; exact er_lab (nx (x :: l) last hL)
      have h1 : hpB yk p = true := by simpa using h1
      refine er_if (fun h2 => ?_) (fun h2 => ?_)
      · rw [goK_skip (by rw [hkv]; exact cd_af (is_le h2))]; exact er_lab (nx (x :: l) last hL)
      have h2 := not_gt h2
      refine er_f hz (er_idx (by omega) hgv (er_agg (er_lc (er_u (er_lc (er_b (er_lc (er_i (er_lc (er_u (er_lc (er_agg (er_lc (er_i (er_lc (er_agg (er_lc (er_i (er_lc (er_i (er_lc (er_b (er_ln (er_lc (er_sl (er_ln ?_))))))))))))))))))))))))))
      refine er_if (fun h3 => ?_) (fun h3 => ?_)
      · rw [goK_skip (by rw [hkv]; exact cd_mr h3)]; exact er_lab (nx (x :: l) last hL)
      refine er_t hvC (er_t hgC ?_)
      cases hG : grpO yk p m with
      | none =>
        have hc : cand (kitV p m) a (kvO (D.agg [D.str yk, D.slice yc (vl.map vD)])) = some (yk, false, v) := by rw [hkv]; exact cd_key h1 h2 h3 hG
        rw [grpB_none hG]
        refine er_f rfl (?_)
        refine er_t (room152 (by rw [hml]; omega)) ?_
        by_cases hfull : (x :: l).length = n.toNat
        · have hb : (((List.map rowP (x :: l)).length : Int) == n) = true := by rw [hml]; simp only [beq_iff_eq]; omega
          rw [goK_full (r := (yk, false, v)) hc (by simp) hfull, hb]
          exact er_t rfl (er_is rfl)
        · have hb : (((List.map rowP (x :: l)).length : Int) == n) = false := by rw [hml, beq_eq_false_iff_ne]; omega
          rw [goK_add (r := (yk, false, v)) hc (by simp) hfull, hb]
          have e := nx ((x :: l) ++ [(yk, false, v)]) last (by rw [List.length_append, List.length_singleton]; omega)
          rw [List.map_append] at e
          exact er_f rfl (er_lab e)
      | some g =>
        obtain ⟨hg1, hg2⟩ := grpB_some hG
        rw [hg1, hg2]
        refine er_t rfl ?_
        cases h4 : lessB a g with
        | false =>
          rw [goK_skip (by rw [hkv]; exact cd_grpN hG h4)]
          refine er_if (fun _ => er_lab (nx (x :: l) last hL)) (fun _ => er_t (by rw [le_less, h4]; rfl) (er_lab (nx (x :: l) last hL)))
        | true =>
        have hc : cand (kitV p m) a (kvO (D.agg [D.str yk, D.slice yc (vl.map vD)])) = some (g, true, v00) := by rw [hkv]; exact cd_grp h1 h2 h3 hG h4
        refine er_if (fun h5 => ?_) (fun h5 => ?_)
        · rw [goK_same hc ⟨rfl, eq_of_beq h5⟩]; exact er_lab (nx (x :: l) last hL)
        have hgl : g ≠ last := fun q => by rw [q, beq_self_eq_true] at h5; exact absurd h5 (by simp)
        refine er_f (by rw [le_less, h4]; rfl) ?_
        refine er_t (room152 (by rw [hml]; omega)) ?_
        by_cases hfull : (x :: l).length = n.toNat
        · have hb : (((List.map rowP (x :: l)).length : Int) == n) = true := by rw [hml]; simp only [beq_iff_eq]; omega
          rw [goK_full (r := (g, true, v00)) hc (fun q => hgl q.2) hfull, hb]
          exact er_t rfl (er_is rfl)
        · have hb : (((List.map rowP (x :: l)).length : Int) == n) = false := by rw [hml, beq_eq_false_iff_ne]; omega
          rw [goK_add (r := (g, true, v00)) hc (fun q => hgl q.2) hfull, hb]
          have e := nx ((x :: l) ++ [(g, true, v00)]) g (by rw [List.length_append, List.length_singleton]; omega)
          rw [List.map_append] at e
          exact er_f rfl (er_lab e)
/-! ### the contract -/
theorem bkK_eq {b : D} (h : bkK b = true) : bkS b = true ∧ (bObj b).all (fun o => decide (0 < (oVs o).length)) = true := by
  unfold bkK at h
  simpa only [Bool.and_eq_true] using h
theorem gC_of {p m a : Tx} (h : gC p m a = true) : short p = true ∧ short m = true ∧ short a = true := by
  unfold gC at h
  simpa only [Bool.and_eq_true] using h
theorem c10' (b : D) (p m a : Tx) (n : Int) (hb : bkK b = true) (hg : gC p m a = true) : RetX (Γ mx) 10 [.d 32 b, .s p, .s m, .s a, .i .i64 n] [] (.tuple [.sl 54 .any (kyA (kRows b p m a) rowP n), .b (kyN (kRows b p m a) n), .i .i64 (pgE n)]) [] := by
  obtain ⟨hb, hne⟩ := bkK_eq hb
  obtain ⟨hsp, hsm, hsa⟩ := gC_of hg
  obtain ⟨hb, ht⟩ := bkS_eq hb
  obtain ⟨nm, md, dy, c1, rs, c2, gs, c3, os, c4, us, rfl, k1, k2, k3, k4, k5, k6⟩ := bkC_ex hb
  by_cases h1 : n < 1
  · have e := pgE_lo h1
    unfold kyA kyN
    rw [e]
    refine ret_nil (e := 54) (ret_goes (Γ := Γ mx) hP hZ W10_ok (by kernel_rfl) ⟨0, ?_⟩)
    rw [w10, decide_eq_true h1]; rfl
  · by_cases h2 : n > 100
    · have e := pgE_hi h2
      unfold kyA kyN
      rw [e]
      refine ret_nil (e := 54) (ret_goes (Γ := Γ mx) hP hZ W10_ok (by kernel_rfl) ⟨0, ?_⟩)
      rw [w10, decide_eq_false h1, decide_eq_true h2]; rfl
    · have e := pgE_ok (show 1 ≤ n by omega) (show n ≤ 100 by omega)
      obtain ⟨q, hq⟩ := g10_6 (mx := mx) (p := p) (m := m) (a := a) (c := c3) (os := os) (n := n) (by omega) (by omega) k4 k5 hne hsp hsm os [] [] [] 0 rfl rfl (by simp)
      rw [goK_eq, addAll_eq _ _ _ (by simp), List.nil_append, show dl [] ((os.map kvO).filterMap (cand (kitV p m) a)) = kRows (D.agg [D.str nm, D.agg [D.int .i64 md, D.int .i64 dy], D.slice c1 rs, D.slice c2 gs, D.slice c3 os, D.slice c4 us]) p m a from rfl] at hq
      unfold kyA kyN
      rw [e]
      generalize kRows (D.agg [D.str nm, D.agg [D.int .i64 md, D.int .i64 dy], D.slice c1 rs, D.slice c2 gs, D.slice c3 os, D.slice c4 us]) p m a = R at hq ⊢
      unfold resK at hq
      have hd : decide (n.toNat < R.length) = decide (n < (R.length : Int)) := decide_eq_decide.2 (by omega)
      rw [hd, resV_ob] at hq
      refine ret_resV (x := ((R.take n.toNat).map rowP, decide (n < (R.length : Int)))) (ret_goes (Γ := Γ mx) hP hZ W10_ok (by kernel_rfl) ⟨q, ?_⟩)
      rw [w10, decide_eq_false h1, decide_eq_false h2, cond_false, cond_false]
      exact hq
theorem spKzP_ok : SpecOK (Γ mx) ⟨10, dat (spKz kRows rowP)⟩ := dat_ok fun args r hr => by
  unfold spKz at hr
  split at hr
  · simp only [Option.some.injEq, Prod.mk.injEq, Bool.and_eq_true] at hr
    obtain ⟨⟨h1, h2⟩, rfl⟩ := hr
    exact c10' _ _ _ _ _ h1 h2
  · exact absurd hr (by simp)
end Go.Proofs.Ytapaenfafjmljaa.V

/- Lists: the document's Keys: its contract. -/
namespace Go.Proofs.Ytapaenfafjmljaa.V
open Go
set_option maxRecDepth 100000
set_option linter.unusedVariables false
set_option linter.unusedSimpArgs false
variable {mx : Int}
theorem W11_ok : CallsOK (Γ mx) W11 := specs_ok (.cons (sp2_ok k36) (.cons (sp3_ok c24') (.cons spPg_ok .nil)))
theorem told_cons (x : Rw Ver) (l : List (Rw Ver)) (g : Tx) : told (x :: l) g = ((x.2.1 && x.1 == g) || told l g) := by
  unfold told; rw [List.any_cons]
theorem g11_15 {p m a : Tx} {n : Int} {nm : Tx} {md dy : Int} {c1 c2 c3 c4 : Cp} {rs gs os us : List D} {acc : List (Rw Ver)} {i : Int} {g : Tx} {t : Bool} {R : AV × Objs} (hal : acc.length ≤ 8388608) (hi : 0 ≤ i) (hi2 : i ≤ 8388608)
    (hT : t = true → Goes (Γ mx) W11 11 5 ⟨[(1, .s p), (2, .s m), (3, .s a), (4, .i .i64 n), (5, .ptr 0 [] 32), (13, .ref 54 1), (14, .i .i64 (i + 1))], [some (.box 32 (.d 32 (D.agg [D.str nm, D.agg [D.int .i64 md, D.int .i64 dy], D.slice c1 rs, D.slice c2 gs, D.slice c3 os, D.slice c4 us]))), some (.arr 54 (acc.map rowR) false)]⟩ R)
    (hF : t = false → Goes (Γ mx) W11 11 5 ⟨[(1, .s p), (2, .s m), (3, .s a), (4, .i .i64 n), (5, .ptr 0 [] 32), (13, .ref 54 1), (14, .i .i64 (i + 1))], [some (.box 32 (.d 32 (D.agg [D.str nm, D.agg [D.int .i64 md, D.int .i64 dy], D.slice c1 rs, D.slice c2 gs, D.slice c3 os, D.slice c4 us]))), some (.arr 54 (acc.map rowR ++ [rowR (g, true, v00)]) false)]⟩ R) :
    ∀ (rest pre : List (Rw Ver)) (b : Bool) (k : Int), acc = pre ++ rest → k = (pre.length : Int) → (b || told rest g) = t →
    Goes (Γ mx) W11 11 15 ⟨[(1, .s p), (2, .s m), (3, .s a), (4, .i .i64 n), (5, .ptr 0 [] 32), (13, .ref 54 1), (14, .i .i64 i), (17, .s g), (19, .b b), (20, .i .i64 k)], [some (.box 32 (.d 32 (D.agg [D.str nm, D.agg [D.int .i64 md, D.int .i64 dy], D.slice c1 rs, D.slice c2 gs, D.slice c3 os, D.slice c4 us]))), some (.arr 54 (acc.map rowR) false)]⟩ R
  | [], pre, b, k, he, hk, ht => by
    subst hk
    have w1 : IntKind.wrap .i64 (i + 1) = i + 1 := wrapI (by omega) (by omega)
    have hlen : acc.length = pre.length := by rw [he]; simp
    refine Goes.er (er_of (fun q => w11_15a _ p m a n i g b _ nm md dy c1 rs c2 gs c3 os c4 us (acc.map rowR)) ?_)
    rw [w1]
    refine er_f (decide_eq_false (by rw [List.length_map]; omega)) ?_
    have ht : b = t := by simpa [told] using ht
    subst ht
    cases b with
    | true => exact er_f rfl (er_lab (hT rfl))
    | false => exact er_t rfl (er_t (room152 (by rw [List.length_map]; omega)) (er_lab (hF rfl)))
  | x :: r, pre, b, k, he, hk, ht => by
    subst hk
    have hlen : acc.length = pre.length + (r.length + 1) := by rw [he]; simp
    have w1 : IntKind.wrap .i64 ((pre.length : Int) + 1) = (pre.length : Int) + 1 := wrapI (by omega) (by omega)
    have hg : (acc.map rowR)[((pre.length : Nat) : Int).toNat]? = some (rowR x) := by rw [List.getElem?_map, show acc[((pre.length : Nat) : Int).toNat]? = some x by rw [he]; exact get_mid pre x r]; rfl
    have c1' : (decide ((0 : Int) ≤ (pre.length : Int)) && decide ((pre.length : Int) < ((acc.map rowR).length : Int))) = true := by rw [List.length_map, decide_eq_true (by omega), decide_eq_true (by omega)]; rfl
    have nx := fun b' hb' => g11_15 hal hi hi2 hT hF r (pre ++ [x]) b' ((pre.length : Int) + 1) (by rw [he]; simp) (by simp) hb'
    rw [told_cons] at ht
    refine Goes.er (er_of (fun q => w11_15a _ p m a n i g b _ nm md dy c1 rs c2 gs c3 os c4 us (acc.map rowR)) ?_)
    rw [w1]
    refine er_t (decide_eq_true (by rw [List.length_map]; omega)) ?_
    refine er_if (fun h => ?_) (fun h => ?_)
    · subst h
      exact er_lab (nx true (by rw [← ht]; simp))
    · subst h
      refine er_t c1' ?_
      obtain ⟨k0, gr, v0'⟩ := x
      cases gr with
      | true =>
        have e : rowR (k0, true, v0') = D.agg [D.str k0, D.bool true, v0, D.bool false] := rfl
        rw [e] at hg
        refine er_get hg (er_agg (er_get rfl (er_b (er_t rfl (er_t c1' (er_get hg (er_agg (er_get rfl (er_s (er_lab (nx (k0 == g) ?_)))))))))))
        rw [← ht]; simp
      | false =>
        have e : rowR (k0, false, v0') = D.agg [D.str k0, D.bool false, vD v0', D.bool true] := rfl
        rw [e] at hg
        refine er_get hg (er_agg (er_get rfl (er_b (er_f rfl (er_lab (nx false ?_))))))
        rw [← ht]; simp
theorem da_key {acc C : List (Rw Ver)} {r : Rw Ver} (h : r.2.1 = false) : da acc (r :: C) = da (acc ++ [r]) C := by rw [da, if_neg (by rw [h]; simp)]
theorem da_told {acc C : List (Rw Ver)} {r : Rw Ver} (h : r.2.1 = true) (h2 : told acc r.1 = true) : da acc (r :: C) = da acc C := by rw [da, if_pos ⟨h, h2⟩]
theorem da_new {acc C : List (Rw Ver)} {r : Rw Ver} (h2 : told acc r.1 = false) : da acc (r :: C) = da (acc ++ [r]) C := by rw [da, if_neg (by rw [h2]; simp)]
theorem g11_5 {p m a : Tx} {n : Int} {nm : Tx} {md dy : Int} {c1 c2 c3 c4 : Cp} {rs gs os us : List D} (hn : 1 ≤ n) (hos : os.all oC = true) (hol : os.length ≤ 8388608) (hne : os.all (fun o => decide (0 < (oVs o).length)) = true) (hsp : short p = true) (hsm : short m = true) :
    ∀ (rest pre : List D) (acc : List (Rw Ver)) (i : Int), os = pre ++ rest → i = (pre.length : Int) → acc.length ≤ pre.length →
    Goes (Γ mx) W11 11 5 ⟨[(1, .s p), (2, .s m), (3, .s a), (4, .i .i64 n), (5, .ptr 0 [] 32), (13, .ref 54 1), (14, .i .i64 i)], [some (.box 32 (.d 32 (D.agg [D.str nm, D.agg [D.int .i64 md, D.int .i64 dy], D.slice c1 rs, D.slice c2 gs, D.slice c3 os, D.slice c4 us]))), some (.arr 54 (acc.map rowR) false)]⟩ (resR n ((da acc ((rest.map kvO).filterMap (cand (kitV p m) a))).map rowR))
  | [], pre, acc, i, he, hi, hL => by
    subst hi
    refine Goes.er (er_of (fun k => w11_5a _ p m a n _ nm md dy c1 rs c2 gs c3 os c4 us (acc.map rowR)) (er_f (decide_eq_false (by rw [he]; simp)) (er_t (decide_eq_true (show (0 : Int) ≤ n by omega)) (er_is rfl))))
  | y :: r, pre, acc, i, he, hi, hL => by
    subst hi
    have hlen : os.length = pre.length + (r.length + 1) := by rw [he]; simp
    have hg : os[((pre.length : Nat) : Int).toNat]? = some y := by rw [he]; exact get_mid pre y r
    have w1 : IntKind.wrap .i64 ((pre.length : Int) + 1) = (pre.length : Int) + 1 := wrapI (by omega) (by omega)
    have nx := fun acc' hL' => g11_5 (p := p) (m := m) (a := a) (nm := nm) (md := md) (dy := dy) (c1 := c1) (c2 := c2) (c3 := c3) (c4 := c4) (rs := rs) (gs := gs) (us := us) hn hos hol hne hsp hsm r (pre ++ [y]) acc' ((pre.length : Int) + 1) (by rw [he]; simp) (by simp) hL'
    have nx0 := nx acc (by rw [List.length_append, List.length_singleton]; omega)
    have nx1 := fun rr => nx (acc ++ [rr]) (by rw [List.length_append, List.length_append, List.length_singleton, List.length_singleton]; omega)
    have hy0 : 0 < (oVs y).length := of_decide_eq_true (List.all_eq_true.1 hne y (by rw [he]; simp))
    obtain ⟨yk, yc, vs, hye, hyk, hvs⟩ := oC_ex (List.all_eq_true.1 hos y (by rw [he]; simp))
    obtain ⟨hvl, hva⟩ := vsC_eq hvs
    obtain ⟨vl, rfl, hvo⟩ := vs_ex hva
    subst hye
    have hy0 : 0 < (vl.map vD).length := hy0
    rw [List.length_map] at hvl hy0
    obtain ⟨v, hlv, hgv, hvm⟩ := lastV_eq hy0
    have hkv := kvO_eq (yk := yk) (yc := yc) hvo hlv
    have hgC : gC yk p m = true := by unfold gC; rw [hyk, hsp, hsm]; rfl
    have w2 : IntKind.wrap .i64 (((vl.map vD).length : Int) - 1) = (vl.length : Int) - 1 := by rw [List.length_map]; exact wrapI (by omega) (by omega)
    rw [List.map_cons, hkv]
    refine Goes.er (er_of (fun k => w11_5a _ p m a n _ nm md dy c1 rs c2 gs c3 os c4 us (acc.map rowR)) ?_)
    rw [w1]
    refine er_t (decide_eq_true (by omega)) (er_idx (by omega) hg (er_agg (er_lc (er_s (er_lc (er_sl (er_ln ?_)))))))
    rw [w2]
    refine er_idx (by omega) hgv (er_agg (er_lc (er_u (er_lc (er_b (er_lc (er_i (er_lc (er_u (er_lc (er_agg (er_lc (er_i (er_lc (er_agg (er_lc (er_i (er_lc (er_i (er_lc (er_b (er_ln (er_lc (er_sl (er_ln ?_)))))))))))))))))))))))))
    refine er_if (fun h1 => ?_) (fun h1 => ?_)
    · have h1 : hpB yk p = false := by simpa using h1
      rw [List.filterMap_cons_none (cd_pre h1)]; exact er_lab nx0
    have h1 : hpB yk p = true := by simpa using h1
    refine er_if (fun h2 => ?_) (fun h2 => ?_)
    · rw [List.filterMap_cons_none (cd_af (is_le h2))]; exact er_lab nx0
    have h2 := not_gt h2
    refine er_if (fun h3 => ?_) (fun h3 => ?_)
    · rw [List.filterMap_cons_none (cd_mr h3)]; exact er_lab nx0
    refine er_t hgC ?_
    have hroom : roomB ((acc.map rowR).length + 1) 152 = true := room152 (by rw [List.length_map]; omega)
    cases hG : grpO yk p m with
    | none =>
      rw [grpB_none hG, List.filterMap_cons_some (cd_key h1 h2 h3 hG), da_key rfl]
      have e := nx1 (yk, false, v)
      rw [List.map_append] at e
      exact er_t rfl (er_t hroom (er_lab e))
    | some g =>
      obtain ⟨hg1, hg2⟩ := grpB_some hG
      rw [hg1, hg2]
      refine er_f rfl (er_lab ?_)
      have hal : acc.length ≤ 8388608 := by omega
      cases h4 : lessB a g with
      | false =>
        rw [List.filterMap_cons_none (cd_grpN hG h4)]
        exact g11_15 (t := true) hal (by omega) (by omega) (fun _ => nx0) (fun q => absurd q (by simp)) acc [] _ 0 rfl rfl (by rw [le_less, h4]; rfl)
      | true =>
        rw [List.filterMap_cons_some (cd_grp h1 h2 h3 hG h4)]
        refine g11_15 (t := told acc g) hal (by omega) (by omega) (fun q => ?_) (fun q => ?_) acc [] _ 0 rfl rfl (by rw [le_less, h4]; rfl)
        · rw [da_told rfl q]; exact nx0
        · rw [da_new (r := (g, true, v00)) q]
          have e := nx1 (g, true, v00)
          rw [List.map_append] at e
          exact e
theorem c11' (b : D) (p m a : Tx) (n : Int) (hb : bkK b = true) (hg : gC p m a = true) : RetX (Γ mx) 11 [.d 32 b, .s p, .s m, .s a, .i .i64 n] [] (.tuple [.sl 54 .any (kyA (kRowsD b p m a) rowR n), .b (kyN (kRowsD b p m a) n), .i .i64 (pgE n)]) [] := by
  obtain ⟨hb, hne⟩ := bkK_eq hb
  obtain ⟨hsp, hsm, hsa⟩ := gC_of hg
  obtain ⟨hb, ht⟩ := bkS_eq hb
  obtain ⟨nm, md, dy, c1, rs, c2, gs, c3, os, c4, us, rfl, k1, k2, k3, k4, k5, k6⟩ := bkC_ex hb
  by_cases h1 : n < 1
  · have e := pgE_lo h1
    unfold kyA kyN
    rw [e]
    refine ret_nil (e := 54) (ret_goes (Γ := Γ mx) hP hZ W11_ok (by kernel_rfl) ⟨0, ?_⟩)
    rw [w11, decide_eq_true h1]; rfl
  · by_cases h2 : n > 100
    · have e := pgE_hi h2
      unfold kyA kyN
      rw [e]
      refine ret_nil (e := 54) (ret_goes (Γ := Γ mx) hP hZ W11_ok (by kernel_rfl) ⟨0, ?_⟩)
      rw [w11, decide_eq_false h1, decide_eq_true h2]; rfl
    · have e := pgE_ok (show 1 ≤ n by omega) (show n ≤ 100 by omega)
      obtain ⟨q, hq⟩ := g11_5 (mx := mx) (p := p) (m := m) (a := a) (n := n) (nm := nm) (md := md) (dy := dy) (c1 := c1) (c2 := c2) (c3 := c3) (c4 := c4) (rs := rs) (gs := gs) (os := os) (us := us) (by omega) k4 k5 hne hsp hsm os [] [] 0 rfl rfl (by simp)
      rw [show da [] ((os.map kvO).filterMap (cand (kitV p m) a)) = kRowsD (D.agg [D.str nm, D.agg [D.int .i64 md, D.int .i64 dy], D.slice c1 rs, D.slice c2 gs, D.slice c3 os, D.slice c4 us]) p m a from rfl] at hq
      unfold kyA kyN
      rw [e]
      generalize kRowsD (D.agg [D.str nm, D.agg [D.int .i64 md, D.int .i64 dy], D.slice c1 rs, D.slice c2 gs, D.slice c3 os, D.slice c4 us]) p m a = R at hq ⊢
      unfold resR at hq
      rw [List.length_map, ← List.map_take] at hq
      refine ret_goes (Γ := Γ mx) hP hZ W11_ok (by kernel_rfl) ⟨q, ?_⟩
      rw [w11, decide_eq_false h1, decide_eq_false h2, cond_false, cond_false]
      exact hq
theorem spKzR_ok : SpecOK (Γ mx) ⟨11, dat (spKz kRowsD rowR)⟩ := dat_ok fun args r hr => by
  unfold spKz at hr
  split at hr
  · simp only [Option.some.injEq, Prod.mk.injEq, Bool.and_eq_true] at hr
    obtain ⟨⟨h1, h2⟩, rfl⟩ := hr
    exact c11' _ _ _ _ _ h1 h2
  · exact absurd hr (by simp)
end Go.Proofs.Ytapaenfafjmljaa.V
