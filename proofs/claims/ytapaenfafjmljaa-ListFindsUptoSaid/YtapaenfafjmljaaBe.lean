/- LsS, LsT, LsU, LsW, LsC, LsD, LsF, LsM, LsH, LsN, LsI, LsO, LsQ, LsR, LsX, LuA, LuB, LuC: texts of this claim, put together in build order by program. -/
import Derived.Test.YtapaenfafjmljaaBd
/- Lists: meta.Sound ends; what it says of the first bucket if it is true. -/
namespace Go.Proofs.Ytapaenfafjmljaa.V
open Go
set_option maxRecDepth 100000
set_option linter.unusedVariables false
set_option linter.unusedSimpArgs false
variable {mx : Int}
/-! ### small ones -/
theorem l43 (c : Int) (_ : true = true) : RetX (Γ mx) 43 [.i .u8 c] [] (.b (lowZ c)) [] := by
  refine ret_goes (Γ := Γ mx) hP hZ none_ok (by kernel_rfl) ⟨0, ?_⟩
  rw [w43, lowZ]
  cases decide (c ≥ 97) <;> cases decide (c ≤ 122) <;> cases decide (c ≥ 48) <;> cases decide (c ≤ 57) <;> rfl
theorem l43_ok : SpecOK (Γ mx) ⟨43, dat (spB fun n => .b (lowZ n))⟩ := dat_ok fun args r hr => by
  unfold spB at hr
  split at hr
  · simp only [Option.some.injEq, Prod.mk.injEq] at hr
    obtain ⟨_, rfl⟩ := hr
    exact l43 _ rfl
  · exact absurd hr (by simp)
theorem l32 (d : D) (h : isDf d = true) : RetX (Γ mx) 32 [.d 26 d] [] (.b (dfB d)) [] := by
  unfold isDf at h
  split at h
  · rename_i md dy
    refine ret_goes (Γ := Γ mx) hP hZ none_ok (by kernel_rfl) ⟨0, ?_⟩
    rw [w32]
    show _ = some (AV.b (bif md == 0 then dy == 0 else bif md == 1 then (bif decide (dy ≥ 1) then decide (dy ≤ 36500) else false) else bif md == 2 then (bif decide (dy ≥ 1) then decide (dy ≤ 36500) else false) else false), [])
    cases md == 0 <;> cases md == 1 <;> cases md == 2 <;> cases decide (dy ≥ 1) <;> rfl
  · exact absurd h (by simp)
theorem l50 (d : D) (h : isPt d = true) : RetX (Γ mx) 50 [.d 107 d] [] (.b (ptB d)) [] := by
  unfold isPt at h
  split at h
  · rename_i a b c g
    refine ret_goes (Γ := Γ mx) hP hZ none_ok (by kernel_rfl) ⟨0, ?_⟩
    rw [w50]
    show _ = some (AV.b (bif decide (a ≥ 1) then bif decide (a ≤ 10000) then bif decide (b ≥ 0) then bif decide (b ≤ 1024) then decide (c ≥ 1) else false else false else false else false), [])
    cases decide (a ≥ 1) <;> cases decide (a ≤ 10000) <;> cases decide (b ≥ 0) <;> cases decide (b ≤ 1024) <;> rfl
  · exact absurd h (by simp)
/-! ### four -/
theorem g44 (s : Tx) (hs : s.length ≤ 4194304) : ∀ (rest pre : Tx) (p d i : Int), s = pre ++ rest → i = (pre.length : Int) → 0 ≤ d → d ≤ 3 → 0 ≤ p → p ≤ (pre.length : Int) → GoesP (Γ mx) (runS []) 44 3 ⟨[(0, .s s), (3, .i .i64 p), (4, .i .i64 d), (5, .i .i64 i)], []⟩ True
  | [], pre, p, d, i, he, hi, h0, h3, hp0, hp => by
    subst hi
    refine GoesP.step (xp_of (fun n => w44_3a _ s p d _) ?_)
    refine xp_bif (fun h => ?_) (fun h => ?_)
    · have := of_decide_eq_true h; rw [he] at this; simp at this
    · exact xp_bif (fun _ => xp_some _ fun _ => trivial) (fun _ => xp_false)
  | c :: r, pre, p, d, i, he, hi, h0, h3, hp0, hp => by
    subst hi
    have hlen : s.length = pre.length + (r.length + 1) := by rw [he]; simp
    have hg : s[((pre.length : Nat) : Int).toNat]? = some c := by rw [he]; exact get_mid pre c r
    have w1 : IntKind.wrap .i64 ((pre.length : Int) + 1) = (pre.length : Int) + 1 := wrapI (by omega) (by omega)
    have w2 : IntKind.wrap .i64 (p + 1) = p + 1 := wrapI (by omega) (by omega)
    have w3 : IntKind.wrap .i64 (d + 1) = d + 1 := wrapI (by omega) (by omega)
    have nx : ∀ p' d', 0 ≤ d' → d' ≤ 3 → 0 ≤ p' → p' ≤ (pre.length : Int) + 1 → GoesP (Γ mx) (runS []) 44 3 ⟨[(0, .s s), (3, .i .i64 p'), (4, .i .i64 d'), (5, .i .i64 ((pre.length : Int) + 1))], []⟩ True := fun p' d' a b e f =>
      g44 s hs r (pre ++ [c]) p' d' _ (by rw [he]; simp) (by simp) a b e (by simp; omega)
    refine GoesP.step (xp_of (fun n => w44_3a _ s p d _) ?_)
    rw [w1, w2, w3]
    refine xp_bif (fun h => ?_) (fun h => ?_)
    · refine xp_idx (by omega) hg ?_
      refine xp_bif (fun _ => ?_) (fun _ => ?_)
      · exact xp_no fun _ => xp_lab (nx _ _ (by omega) (by omega) (by omega) (by omega))
      · refine xp_idx (by omega) hg (xp_no fun _ => xp_idx (by omega) hg (xp_no fun _ => xp_no fun hd => ?_))
        have := of_decide_eq_false hd
        exact xp_lab (nx _ _ (by omega) (by omega) (by omega) (by omega))
    · have := of_decide_eq_false h; omega
theorem l44 (s : Tx) (h : short s = true) : ∃ b, RetX (Γ mx) 44 [.s s] [] (.b b) [] := by
  obtain ⟨b, ⟨n, hn⟩, _⟩ := g44 (mx := mx) s (short_le h) s [] 0 0 0 rfl rfl (by omega) (by omega) (by omega) (by simp)
  exact ⟨b, ret_goes (Γ := Γ mx) hP hZ none_ok (by kernel_rfl) ⟨n, by rw [w44]; exact hn⟩⟩
open Classical in
noncomputable def fourB (mx : Int) (s : Tx) : Bool := if h : ∃ b, RetX (Γ mx) 44 [.s s] [] (.b b) [] then Classical.choose h else false
theorem c44' (s : Tx) (h : short s = true) : RetX (Γ mx) 44 [.s s] [] (.b (fourB mx s)) [] := by
  have he := l44 (mx := mx) s h
  unfold fourB
  rw [dif_pos he]
  exact Classical.choose_spec he
/-! ### a bucket's name -/
theorem W31_ok : CallsOK (Γ mx) (W31 (fourB mx)) := specs_ok (.cons l43_ok (.cons (sp1_ok c44') .nil))
theorem g31 (FO : Tx → Bool) (s : Tx) (hs : s.length ≤ 4194304) : ∀ (rest pre : Tx) (i : Int), s = pre ++ rest → i = (pre.length : Int) → GoesP (Γ mx) (W31 FO) 31 4 ⟨[(0, .s s), (3, .i .i64 i)], []⟩ True
  | [], pre, i, he, hi => by
    subst hi
    refine GoesP.step (xp_of (fun n => w31_4a FO _ s _) ?_)
    refine xp_bif (fun h => ?_) (fun h => xp_some _ fun _ => trivial)
    have := of_decide_eq_true h; rw [he] at this; simp at this
  | c :: r, pre, i, he, hi => by
    subst hi
    have hlen : s.length = pre.length + (r.length + 1) := by rw [he]; simp
    have hg : s[((pre.length : Nat) : Int).toNat]? = some c := by rw [he]; exact get_mid pre c r
    have w1 : IntKind.wrap .i64 ((pre.length : Int) + 1) = (pre.length : Int) + 1 := wrapI (by omega) (by omega)
    have w2 : IntKind.wrap .i64 ((pre.length : Int) - 1) = (pre.length : Int) - 1 := wrapI (by omega) (by omega)
    have nx := xp_lab (g31 FO s hs r (pre ++ [c]) ((pre.length : Int) + 1) (by rw [he]; simp) (by simp))
    have hp : (pre.length : Int) > 0 → ∃ y, s[((pre.length : Int) - 1).toNat]? = some y := fun h => by
      obtain ⟨y, hy, _⟩ := get_some (l := s) (i := (pre.length : Int) - 1) (by omega) (by omega)
      exact ⟨y, hy⟩
    refine GoesP.step (xp_of (fun n => w31_4a FO _ s _) ?_)
    rw [w1, w2]
    have rest : EXP True fun n => bif decide ((pre.length : Int) > 0) then (idx s (pre.length : Int) fun c6 => bif !(lowZ ((c6.toNat : Int))) then (idx s ((pre.length : Int) - 1) fun c7 => bif !(lowZ ((c7.toNat : Int))) then (idx s (pre.length : Int) fun c8 => bif ((c8.toNat : Int)) == 45 then (idx s ((pre.length : Int) - 1) fun c9 => bif !(((c9.toNat : Int)) == 45) then (some (.b false, [])) else (L (Γ mx) (W31 FO) 31 n (todoAt (Γ mx) 31 4) ⟨[(0, .s s), (3, .i .i64 ((pre.length : Int) + 1))], []⟩)) else (some (.b false, []))) else (L (Γ mx) (W31 FO) 31 n (todoAt (Γ mx) 31 4) ⟨[(0, .s s), (3, .i .i64 ((pre.length : Int) + 1))], []⟩)) else (L (Γ mx) (W31 FO) 31 n (todoAt (Γ mx) 31 4) ⟨[(0, .s s), (3, .i .i64 ((pre.length : Int) + 1))], []⟩)) else (L (Γ mx) (W31 FO) 31 n (todoAt (Γ mx) 31 4) ⟨[(0, .s s), (3, .i .i64 ((pre.length : Int) + 1))], []⟩) := by
      refine xp_bif (fun h => ?_) (fun _ => nx)
      obtain ⟨y, hy⟩ := hp (of_decide_eq_true h)
      have h1 := of_decide_eq_true h
      refine xp_idx (by omega) hg (xp_bif (fun _ => ?_) (fun _ => nx))
      refine xp_idx (by omega) hy (xp_bif (fun _ => ?_) (fun _ => nx))
      refine xp_idx (by omega) hg (xp_bif (fun _ => ?_) (fun _ => xp_false))
      exact xp_idx (by omega) hy (xp_no fun _ => nx)
    refine xp_bif (fun h => ?_) (fun h => ?_)
    · refine xp_idx (by omega) hg (xp_bif (fun _ => ?_) (fun _ => rest))
      refine xp_idx (by omega) hg (xp_bif (fun _ => ?_) (fun _ => rest))
      exact xp_idx (by omega) hg (xp_no fun _ => rest)
    · have := of_decide_eq_false h; omega
theorem l31 (s : Tx) (h : short s = true) : ∃ b, RetX (Γ mx) 31 [.s s] [] (.b b) [] := by
  have hl := short_le h
  obtain ⟨b, ⟨n, hn⟩, _⟩ := g31 (mx := mx) (fourB mx) s hl s [] 0 rfl rfl
  have : EXP True fun n => evF (Γ mx) (W31 (fourB mx)) (L (Γ mx) (W31 (fourB mx)) 31 n) 31 [.s s] [] := by
    refine xp_of (fun n => w31 (fourB mx) _ s) ?_
    refine xp_no fun h1 => xp_no fun h2 => ?_
    have h1 := of_decide_eq_false h1
    have e1 : IntKind.wrap .i64 ((s.length : Int) - 1) = (s.length : Int) - 1 := wrapI (by omega) (by omega)
    rw [e1]
    obtain ⟨y, hy, _⟩ := get_some (l := s) (i := 0) (by omega) (by omega)
    obtain ⟨z, hz, _⟩ := get_some (l := s) (i := (s.length : Int) - 1) (by omega) (by omega)
    refine xp_idx (by omega) hy (xp_no fun _ => xp_idx (by omega) hz (xp_no fun _ => xp_must h (xp_no fun _ => ?_)))
    exact ⟨n, b, hn, fun _ => trivial⟩
  obtain ⟨m, b', hm, _⟩ := this
  exact ⟨b', ret_goes (Γ := Γ mx) hP hZ W31_ok (by kernel_rfl) ⟨m, hm⟩⟩
open Classical in
noncomputable def bktB (mx : Int) (s : Tx) : Bool := if h : ∃ b, RetX (Γ mx) 31 [.s s] [] (.b b) [] then Classical.choose h else false
theorem c31' (s : Tx) (h : short s = true) : RetX (Γ mx) 31 [.s s] [] (.b (bktB mx s)) [] := by
  have he := l31 (mx := mx) s h
  unfold bktB
  rw [dif_pos he]
  exact Classical.choose_spec he
end Go.Proofs.Ytapaenfafjmljaa.V

/- Lists: meta.Sound ends; what it says of the first bucket if it is true: the loops. -/
namespace Go.Proofs.Ytapaenfafjmljaa.V
open Go
set_option maxRecDepth 100000
set_option linter.unusedVariables false
set_option linter.unusedSimpArgs false
variable {mx : Int}
/-! ### an upload -/
theorem pt_ex {d : D} (h : isPt d = true) : ∃ a b c g, d = .agg [.int .i64 a, .int .i64 b, .int .u64 c, .agg g] := by
  unfold isPt at h
  split at h
  · exact ⟨_, _, _, _, rfl⟩
  · exact absurd h (by simp)
theorem uC_ex {d : D} (h : uC d = true) : ∃ i k c t c' p, d = .agg [.int .u64 i, .str k, .slice c t, .slice c' p] ∧ short k = true ∧ tC t = true ∧ p.all isPt = true := by
  unfold uC at h
  split at h
  · simp only [Bool.and_eq_true] at h; exact ⟨_, _, _, _, _, _, rfl, h.1, h.2.1, h.2.2⟩
  · exact absurd h (by simp)
theorem W36_ok : CallsOK (Γ mx) W36 := specs_ok (.cons (spL1s_ok k45) (.cons (sp1_ok k46) (.cons (spD1_ok l50) .nil)))
theorem g36 (b id : Int) (k : Tx) (c : Cp) (t : List D) (c' : Cp) (p : List D) (hp : p.all isPt = true) (hl : p.length ≤ 16) : ∀ (rest pre : List D) (i : Int), p = pre ++ rest → i = (pre.length : Int) →
    GoesP (Γ mx) W36 36 4 ⟨[(1, .i .u64 b), (2, .ptr 0 [] 93), (5, .i .i64 i)], [some (.box 93 (.d 93 (D.agg [D.int .u64 id, D.str k, D.slice c t, D.slice c' p])))]⟩ True
  | [], pre, i, he, hi => by
    subst hi
    refine GoesP.step (xp_of (fun n => w36_4a _ b _ id k c t c' p) ?_)
    refine xp_bif (fun h => ?_) (fun h => xp_some _ fun _ => trivial)
    have := of_decide_eq_true h; rw [he] at this; simp at this
  | y :: r, pre, i, he, hi => by
    subst hi
    have hlen : p.length = pre.length + (r.length + 1) := by rw [he]; simp
    have hg : p[((pre.length : Nat) : Int).toNat]? = some y := by rw [he]; exact get_mid pre y r
    have w1 : IntKind.wrap .i64 ((pre.length : Int) + 1) = (pre.length : Int) + 1 := wrapI (by omega) (by omega)
    have w2 : IntKind.wrap .i64 ((pre.length : Int) - 1) = (pre.length : Int) - 1 := wrapI (by omega) (by omega)
    have nx := xp_lab (g36 b id k c t c' p hp hl r (pre ++ [y]) ((pre.length : Int) + 1) (by rw [he]; simp) (by simp))
    have hy := List.all_eq_true.1 hp y (by rw [he]; simp)
    obtain ⟨a1, a2, a3, a4, rfl⟩ := pt_ex hy
    refine GoesP.step (xp_of (fun n => w36_4a _ b _ id k c t c' p) ?_)
    rw [w1, w2]
    refine xp_bif (fun h => ?_) (fun h => xp_some _ fun _ => trivial)
    refine xp_idx (by omega) hg ?_
    refine xp_agg (xp_lc (xp_i (xp_lc (xp_i (xp_lc (xp_u (xp_lc (xp_agg (xp_ln ?_)))))))))
    refine xp_must hy (xp_no fun _ => xp_idx (by omega) hg (xp_agg (xp_get rfl (xp_u (xp_no fun _ => xp_bif (fun h0 => ?_) (fun _ => nx))))))
    obtain ⟨z, hz, hm⟩ := get_some (l := p) (i := (pre.length : Int) - 1) (by have := of_decide_eq_true h0; omega) (by omega)
    obtain ⟨z1, z2, z3, z4, rfl⟩ := pt_ex (List.all_eq_true.1 hp z hm)
    exact xp_idx (by have := of_decide_eq_true h0; omega) hz (xp_agg (xp_get rfl (xp_i (xp_idx (by omega) hg (xp_agg (xp_get rfl (xp_i (xp_no fun _ => nx))))))))
theorem l36 (u : D) (b : Int) (h : uC u = true) : ∃ r, RetX (Γ mx) 36 [.d 93 u, .i .u64 b] [] (.b r) [] := by
  obtain ⟨id, k, c, t, c', p, rfl, h1, h2, h3⟩ := uC_ex h
  have : EXP True fun n => evF (Γ mx) W36 (L (Γ mx) W36 36 n) 36 [.d 93 (D.agg [D.int .u64 id, D.str k, D.slice c t, D.slice c' p]), .i .u64 b] [] := by
    refine xp_of (fun n => w36 _ id k c t c' p b) ?_
    refine xp_must h1 (xp_no fun _ => xp_must h2 (xp_no fun _ => xp_no fun h16 => xp_lab ?_))
    have := of_decide_eq_false h16
    exact g36 b id k c t c' p h3 (by omega) p [] 0 rfl rfl
  obtain ⟨m, r, hm, _⟩ := this
  exact ⟨r, ret_goes (Γ := Γ mx) hP hZ W36_ok (by kernel_rfl) ⟨m, hm⟩⟩
open Classical in
noncomputable def upB (mx : Int) (u : D) (b : Int) : Bool := if h : ∃ r, RetX (Γ mx) 36 [.d 93 u, .i .u64 b] [] (.b r) [] then Classical.choose h else false
theorem spUp_ok : SpecOK (Γ mx) ⟨36, dat (spUpv (upB mx))⟩ := dat_ok fun args r hr => by
  unfold spUpv at hr
  split at hr
  · rename_i u b
    simp only [Option.some.injEq, Prod.mk.injEq] at hr
    obtain ⟨h1, rfl⟩ := hr
    have he := l36 (mx := mx) u b h1
    unfold upB
    rw [dif_pos he]
    exact Classical.choose_spec he
  · exact absurd hr (by simp)
/-! ### a bucket, a state -/
def bkC : D → Bool
  | .agg [.str nm, .agg [.int .i64 _, .int .i64 _], .slice _ rs, .slice _ gs, .slice _ os, .slice _ us] => short nm && (rsC rs && (allG gs && (os.all oC && (decide (os.length ≤ 8388608) && us.all uC))))
  | _ => false
theorem bkC_ex {d : D} (h : bkC d = true) : ∃ nm md dy c1 rs c2 gs c3 os c4 us, d = .agg [.str nm, .agg [.int .i64 md, .int .i64 dy], .slice c1 rs, .slice c2 gs, .slice c3 os, .slice c4 us] ∧ short nm = true ∧ rsC rs = true ∧ allG gs = true ∧ os.all oC = true ∧ os.length ≤ 8388608 ∧ us.all uC = true := by
  unfold bkC at h
  split at h
  · simp only [Bool.and_eq_true, decide_eq_true_eq] at h; exact ⟨_, _, _, _, _, _, _, _, _, _, _, rfl, h.1, h.2.1, h.2.2.1, h.2.2.2.1, h.2.2.2.2.1, h.2.2.2.2.2⟩
  · exact absurd h (by simp)
def bObj : D → List D
  | .agg [.str _, .agg [.int .i64 _, .int .i64 _], .slice _ _, .slice _ _, .slice _ os, .slice _ _] => os
  | _ => []
def stC : D → Bool
  | .agg [.int .i64 _, .int .u64 _, .int .u64 _, .slice _ l] => l.all bkC
  | _ => false
theorem stC_ex {d : D} (h : stC d = true) : ∃ m n b c l, d = .agg [.int .i64 m, .int .u64 n, .int .u64 b, .slice c l] ∧ l.all bkC = true := by
  unfold stC at h
  split at h
  · exact ⟨_, _, _, _, _, rfl, h⟩
  · exact absurd h (by simp)
def isU : D → Bool
  | .int .u64 _ => true
  | _ => false
theorem isU_ex {d : D} (h : isU d = true) : ∃ n, d = .int .u64 n := by
  unfold isU at h
  split at h
  · exact ⟨_, rfl⟩
  · exact absurd h (by simp)
/-- a bucket's objects: sound, in order, few -/
def ltO (o : Option Tx) (k : Tx) : Bool := match o with | none => true | some p => lessB p k
def okOs : Option Tx → Int → List D → Bool
  | _, _, [] => true
  | o, n, y :: r => oSnd y && (ltO o (oKey y) && (decide (n + ((oVs y).length : Int) ≤ 256) && okOs (some (oKey y)) (n + ((oVs y).length : Int)) r))
def okSt (l : List D) : Prop := match l with | [] => True | y :: _ => okOs none 0 (bObj y) = true
variable (BK : Tx → Bool) (UP : D → Int → Bool)
theorem s41 {sm sn sb : Int} {sc : Cp} {sl ids : List D} {n1 : Int} {P : Prop} (hu : ids.all isU = true) (h1 : 0 ≤ n1) (h2 : n1 < (ids.length : Int)) (hb : ids.length ≤ 4194304)
    (hc : GoesP (Γ mx) (W18 BK UP) 18 36 ⟨[(1, .ptr 0 [] 24), (3, .ref 22 1), (12, .i .i64 (n1 + 1))], [some (.box 24 (.d 24 (D.agg [D.int .i64 sm, D.int .u64 sn, D.int .u64 sb, D.slice sc sl]))), some (.arr 22 ids false)]⟩ P) :
    ∀ (d : Nat) (n2 : Int), 0 ≤ n2 → n1 - n2 = (d : Int) → GoesP (Γ mx) (W18 BK UP) 18 41 ⟨[(1, .ptr 0 [] 24), (3, .ref 22 1), (12, .i .i64 n1), (13, .i .i64 n2)], [some (.box 24 (.d 24 (D.agg [D.int .i64 sm, D.int .u64 sn, D.int .u64 sb, D.slice sc sl]))), some (.arr 22 ids false)]⟩ P
  | 0, n2, h0, hd => by
    refine GoesP.step (xp_of (fun n => w18_41a BK UP _ n1 n2 sm sn sb sc sl ids) ?_)
    rw [show IntKind.wrap .i64 (n1 + 1) = n1 + 1 from wrapI (by omega) (by omega)]
    refine xp_bif (fun h => ?_) (fun _ => xp_lab hc)
    have := of_decide_eq_true h; omega
  | d + 1, n2, h0, hd => by
    have nx := xp_lab (s41 hu h1 h2 hb hc d (n2 + 1) (by omega) (by omega))
    obtain ⟨y, hy, hm⟩ := get_some (l := ids) (i := n2) h0 (by omega)
    obtain ⟨z, hz, hm'⟩ := get_some (l := ids) (i := n1) h1 h2
    obtain ⟨u, rfl⟩ := isU_ex (List.all_eq_true.1 hu y hm)
    obtain ⟨v, rfl⟩ := isU_ex (List.all_eq_true.1 hu z hm')
    refine GoesP.step (xp_of (fun n => w18_41a BK UP _ n1 n2 sm sn sb sc sl ids) ?_)
    rw [show IntKind.wrap .i64 (n2 + 1) = n2 + 1 from wrapI (by omega) (by omega)]
    refine xp_bif (fun h => ?_) (fun h => ?_)
    · refine xp_must (by rw [decide_eq_true h0, decide_eq_true (show n2 < (ids.length : Int) by omega)]; rfl) (xp_get hy (xp_u (xp_must (by rw [decide_eq_true h1, decide_eq_true h2]; rfl) (xp_get hz (xp_u (xp_no fun _ => nx))))))
    · have := of_decide_eq_false h; omega
theorem s36 {sm sn sb : Int} {sc : Cp} {sl ids : List D} {P : Prop} (hP : P) (hu : ids.all isU = true) (hb : ids.length ≤ 4194304) :
    ∀ (d : Nat) (n1 : Int), 0 ≤ n1 → (ids.length : Int) - n1 = (d : Int) → GoesP (Γ mx) (W18 BK UP) 18 36 ⟨[(1, .ptr 0 [] 24), (3, .ref 22 1), (12, .i .i64 n1)], [some (.box 24 (.d 24 (D.agg [D.int .i64 sm, D.int .u64 sn, D.int .u64 sb, D.slice sc sl]))), some (.arr 22 ids false)]⟩ P
  | 0, n1, h0, hd => by
    refine GoesP.step (xp_of (fun n => w18_36a BK UP _ n1 sm sn sb sc sl ids) ?_)
    refine xp_bif (fun h => ?_) (fun _ => xp_some _ fun _ => hP)
    have := of_decide_eq_true h; omega
  | d + 1, n1, h0, hd => by
    have hn := s36 (sm := sm) (sn := sn) (sb := sb) (sc := sc) (sl := sl) hP hu hb d (n1 + 1) (by omega) (by omega)
    have nx := xp_lab (s41 BK UP hu h0 (by omega) hb hn n1.toNat 0 (by omega) (by omega))
    obtain ⟨y, hy, hm⟩ := get_some (l := ids) (i := n1) h0 (by omega)
    obtain ⟨u, rfl⟩ := isU_ex (List.all_eq_true.1 hu y hm)
    have hc : (decide ((0 : Int) ≤ n1) && decide (n1 < (ids.length : Int))) = true := by rw [decide_eq_true h0, decide_eq_true (show n1 < (ids.length : Int) by omega)]; rfl
    refine GoesP.step (xp_of (fun n => w18_36a BK UP _ n1 sm sn sb sc sl ids) ?_)
    refine xp_bif (fun h => ?_) (fun h => ?_)
    · exact xp_must hc (xp_get hy (xp_u (xp_no fun _ => xp_must hc (xp_get hy (xp_u (xp_no fun _ => nx))))))
    · have := of_decide_eq_false h; omega
end Go.Proofs.Ytapaenfafjmljaa.V

/- Lists: meta.Sound ends; what it says of the first bucket if it is true: buckets, objects, versions, uploads. -/
namespace Go.Proofs.Ytapaenfafjmljaa.V
open Go
set_option maxRecDepth 100000
set_option linter.unusedVariables false
set_option linter.unusedSimpArgs false
variable {mx : Int}
theorem room8 {n : Nat} (h : n ≤ 10000000) : roomB n 8 = true := by
  unfold roomB
  simp only [Bool.and_eq_true, decide_eq_true_eq]
  exact ⟨rfl, by omega⟩
theorem u_snoc {l : List D} (h : l.all isU = true) (n : Int) : (l ++ [D.int .u64 n]).all isU = true := by rw [List.all_append, h]; rfl
variable (BK : Tx → Bool) (UP : D → Int → Bool)
theorem s28 {sm sn sb : Int} {sc : Cp} {sl : List D} {n1 i : Int} {nm : Tx} {md dy : Int} {c1 c2 c3 c4 : Cp} {rs gs os us : List D} {P : Prop} (N : Nat) (hN : N ≤ 4194304) (hi : 0 ≤ i) (hi2 : i ≤ 16) (hus : us.all uC = true) (hul : us.length ≤ 4)
    (hc : ∀ ids : List D, ids.all isU = true → ids.length ≤ N → GoesP (Γ mx) (W18 BK UP) 18 6 ⟨[(1, .ptr 0 [] 24), (3, .ref 22 1), (4, .i .i64 n1), (5, .i .i64 (i + 1))], [some (.box 24 (.d 24 (D.agg [D.int .i64 sm, D.int .u64 sn, D.int .u64 sb, D.slice sc sl]))), some (.arr 22 ids false)]⟩ P) :
    ∀ (rest pre ids : List D) (k : Int), us = pre ++ rest → k = (pre.length : Int) → ids.all isU = true → ids.length + rest.length ≤ N →
    GoesP (Γ mx) (W18 BK UP) 18 28 ⟨[(1, .ptr 0 [] 24), (3, .ref 22 1), (4, .i .i64 n1), (5, .i .i64 i), (6, .ptr 2 [] 32), (11, .i .i64 k)], [some (.box 24 (.d 24 (D.agg [D.int .i64 sm, D.int .u64 sn, D.int .u64 sb, D.slice sc sl]))), some (.arr 22 ids false), some (.box 32 (.d 32 (D.agg [D.str nm, D.agg [D.int .i64 md, D.int .i64 dy], D.slice c1 rs, D.slice c2 gs, D.slice c3 os, D.slice c4 us])))]⟩ P
  | [], pre, ids, k, he, hk, hu, hl => by
    subst hk
    refine GoesP.step (xp_of (fun n => w18_28a BK UP _ n1 i _ sm sn sb sc sl ids nm md dy c1 rs c2 gs c3 os c4 us) ?_)
    rw [show IntKind.wrap .i64 (i + 1) = i + 1 from wrapI (by omega) (by omega)]
    refine xp_bif (fun h => ?_) (fun _ => xp_lab (hc ids hu (by simpa using hl)))
    have := of_decide_eq_true h; rw [he] at this; simp at this
  | y :: r, pre, ids, k, he, hk, hu, hl => by
    subst hk
    have hlen : us.length = pre.length + (r.length + 1) := by rw [he]; simp
    have hg : us[((pre.length : Nat) : Int).toNat]? = some y := by rw [he]; exact get_mid pre y r
    have w1 : IntKind.wrap .i64 ((pre.length : Int) + 1) = (pre.length : Int) + 1 := wrapI (by omega) (by omega)
    have w2 : IntKind.wrap .i64 ((pre.length : Int) - 1) = (pre.length : Int) - 1 := wrapI (by omega) (by omega)
    have hy := List.all_eq_true.1 hus y (by rw [he]; simp)
    have nx : ∀ id : Int, _ := fun id => xp_lab (s28 (nm := nm) (md := md) (dy := dy) (c1 := c1) (c2 := c2) (c3 := c3) (c4 := c4) (rs := rs) (gs := gs) (os := os) N hN hi hi2 hus hul hc r (pre ++ [y]) (ids ++ [D.int .u64 id]) ((pre.length : Int) + 1) (by rw [he]; simp) (by simp) (u_snoc hu id) (by simp at hl ⊢; omega))
    obtain ⟨id, uk, uc, ut, uc', up, rfl, _, _, _⟩ := uC_ex hy
    have hr : roomB (ids.length + 1) 8 = true := room8 (by simp at hl; omega)
    refine GoesP.step (xp_of (fun n => w18_28a BK UP _ n1 i _ sm sn sb sc sl ids nm md dy c1 rs c2 gs c3 os c4 us) ?_)
    rw [w1, w2]
    refine xp_bif (fun h => ?_) (fun h => ?_)
    · refine xp_idx (by omega) hg (xp_agg (xp_lc (xp_u (xp_lc (xp_s (xp_lc (xp_sl (xp_lc (xp_sl (xp_ln ?_))))))))))
      refine xp_must hy (xp_no fun _ => xp_bif (fun h0 => ?_) (fun _ => ?_))
      · have h0 := of_decide_eq_true h0
        obtain ⟨z, hz, hm⟩ := get_some (l := us) (i := (pre.length : Int) - 1) (by omega) (by omega)
        obtain ⟨zi, zk, zc, zt, zc', zp, rfl, _, _, _⟩ := uC_ex (List.all_eq_true.1 hus z hm)
        refine xp_idx (by omega) hz (xp_agg (xp_get rfl (xp_u (xp_idx (by omega) hg (xp_agg (xp_get rfl (xp_u (xp_no fun _ => ?_))))))))
        exact xp_idx (by omega) hg (xp_agg (xp_get rfl (xp_u (xp_must hr (nx id)))))
      · exact xp_idx (by omega) hg (xp_agg (xp_get rfl (xp_u (xp_must hr (nx id)))))
    · have := of_decide_eq_false h; omega
theorem s21 {sm sn sb : Int} {sc : Cp} {sl : List D} {n1 i k : Int} {nm : Tx} {md dy : Int} {c1 c2 c3 c4 : Cp} {rs gs os us : List D} {ok : Tx} {oc : Cp} {vs : List D} {P : Prop} (N : Nat) (hN : N ≤ 4194304) (hk : 0 ≤ k) (hk2 : k ≤ 8388608) (hvs : vs.all vC = true) (hvl : vs.length ≤ 8388608)
    (hc : ∀ ids : List D, ids.all isU = true → ids.length ≤ N → GoesP (Γ mx) (W18 BK UP) 18 12 ⟨[(1, .ptr 0 [] 24), (3, .ref 22 1), (4, .i .i64 n1), (5, .i .i64 i), (6, .ptr 2 [] 32), (7, .i .i64 (k + 1))], [some (.box 24 (.d 24 (D.agg [D.int .i64 sm, D.int .u64 sn, D.int .u64 sb, D.slice sc sl]))), some (.arr 22 ids false), some (.box 32 (.d 32 (D.agg [D.str nm, D.agg [D.int .i64 md, D.int .i64 dy], D.slice c1 rs, D.slice c2 gs, D.slice c3 os, D.slice c4 us])))]⟩ P) :
    ∀ (rest pre ids : List D) (j : Int), vs = pre ++ rest → j = (pre.length : Int) → ids.all isU = true → ids.length + rest.length ≤ N →
    GoesP (Γ mx) (W18 BK UP) 18 21 ⟨[(1, .ptr 0 [] 24), (3, .ref 22 1), (4, .i .i64 n1), (5, .i .i64 i), (6, .ptr 2 [] 32), (7, .i .i64 k), (8, .ptr 3 [] 59), (9, .i .i64 j)], [some (.box 24 (.d 24 (D.agg [D.int .i64 sm, D.int .u64 sn, D.int .u64 sb, D.slice sc sl]))), some (.arr 22 ids false), some (.box 32 (.d 32 (D.agg [D.str nm, D.agg [D.int .i64 md, D.int .i64 dy], D.slice c1 rs, D.slice c2 gs, D.slice c3 os, D.slice c4 us]))), some (.box 59 (.d 59 (D.agg [D.str ok, D.slice oc vs])))]⟩ P
  | [], pre, ids, j, he, hj, hu, hl => by
    subst hj
    refine GoesP.step (xp_of (fun n => w18_21a BK UP _ n1 i k _ sm sn sb sc sl ids nm md dy c1 rs c2 gs c3 os c4 us ok oc vs) ?_)
    rw [show IntKind.wrap .i64 (k + 1) = k + 1 from wrapI (by omega) (by omega)]
    refine xp_bif (fun h => ?_) (fun _ => xp_lab (hc ids hu (by simpa using hl)))
    have := of_decide_eq_true h; rw [he] at this; simp at this
  | y :: r, pre, ids, j, he, hj, hu, hl => by
    subst hj
    have hlen : vs.length = pre.length + (r.length + 1) := by rw [he]; simp
    have hg : vs[((pre.length : Nat) : Int).toNat]? = some y := by rw [he]; exact get_mid pre y r
    have w1 : IntKind.wrap .i64 ((pre.length : Int) + 1) = (pre.length : Int) + 1 := wrapI (by omega) (by omega)
    obtain ⟨v, rfl, _⟩ := vC_ex (List.all_eq_true.1 hvs y (by rw [he]; simp))
    have nx := xp_lab (s21 (ok := ok) (oc := oc) N hN hk hk2 hvs hvl hc r (pre ++ [vD v]) (ids ++ [D.int .u64 v.id]) ((pre.length : Int) + 1) (by rw [he]; simp) (by simp) (u_snoc hu v.id) (by simp at hl ⊢; omega))
    have hr : roomB (ids.length + 1) 8 = true := room8 (by simp at hl; omega)
    refine GoesP.step (xp_of (fun n => w18_21a BK UP _ n1 i k _ sm sn sb sc sl ids nm md dy c1 rs c2 gs c3 os c4 us ok oc vs) ?_)
    rw [w1]
    refine xp_bif (fun h => ?_) (fun h => ?_)
    · refine xp_idx (by omega) hg (xp_agg (xp_lc (xp_u (xp_lc (xp_b (xp_lc (xp_i (xp_lc (xp_u (xp_lc (xp_agg (xp_lc (xp_i (xp_lc (xp_agg (xp_lc (xp_i (xp_lc (xp_i (xp_lc (xp_b (xp_ln (xp_lc (xp_sl (xp_ln ?_)))))))))))))))))))))))))
      exact xp_no fun _ => xp_no fun _ => xp_must hr nx
    · have := of_decide_eq_false h; omega
theorem s12 {sm sn sb : Int} {sc : Cp} {sl : List D} {i : Int} {nm : Tx} {md dy : Int} {c1 c2 c3 c4 : Cp} {rs gs os us : List D} {P Q : Prop} (B : Nat) (hB : B ≤ 1000) (hos : os.all oC = true) (hol : os.length ≤ 8388608)
    (hc : ∀ (n1 : Int) (ids : List D), 0 ≤ n1 → n1 ≤ 256 → ids.all isU = true → (ids.length : Int) ≤ n1 + B → Q → GoesP (Γ mx) (W18 BK UP) 18 28 ⟨[(1, .ptr 0 [] 24), (3, .ref 22 1), (4, .i .i64 n1), (5, .i .i64 i), (6, .ptr 2 [] 32), (11, .i .i64 0)], [some (.box 24 (.d 24 (D.agg [D.int .i64 sm, D.int .u64 sn, D.int .u64 sb, D.slice sc sl]))), some (.arr 22 ids false), some (.box 32 (.d 32 (D.agg [D.str nm, D.agg [D.int .i64 md, D.int .i64 dy], D.slice c1 rs, D.slice c2 gs, D.slice c3 os, D.slice c4 us])))]⟩ P) :
    ∀ (rest pre ids : List D) (prev : Option Tx) (n1 k : Int), os = pre ++ rest → k = (pre.length : Int) → (∀ p, prev = some p → ∃ pre' o, pre = pre' ++ [o] ∧ oKey o = p) → (prev = none → pre = []) → 0 ≤ n1 → n1 ≤ 256 → ids.all isU = true → (ids.length : Int) ≤ n1 + B → (okOs prev n1 rest = true → Q) →
    GoesP (Γ mx) (W18 BK UP) 18 12 ⟨[(1, .ptr 0 [] 24), (3, .ref 22 1), (4, .i .i64 n1), (5, .i .i64 i), (6, .ptr 2 [] 32), (7, .i .i64 k)], [some (.box 24 (.d 24 (D.agg [D.int .i64 sm, D.int .u64 sn, D.int .u64 sb, D.slice sc sl]))), some (.arr 22 ids false), some (.box 32 (.d 32 (D.agg [D.str nm, D.agg [D.int .i64 md, D.int .i64 dy], D.slice c1 rs, D.slice c2 gs, D.slice c3 os, D.slice c4 us])))]⟩ P
  | [], pre, ids, prev, n1, k, he, hk, _, _, h0, h256, hu, hl, hQ => by
    subst hk
    refine GoesP.step (xp_of (fun n => w18_12a BK UP _ n1 i _ sm sn sb sc sl ids nm md dy c1 rs c2 gs c3 os c4 us) ?_)
    refine xp_bif (fun h => ?_) (fun _ => xp_lab (hc n1 ids h0 h256 hu hl (hQ rfl)))
    have := of_decide_eq_true h; rw [he] at this; simp at this
  | y :: r, pre, ids, prev, n1, k, he, hk, hp1, hp2, h0, h256, hu, hl, hQ => by
    subst hk
    have hlen : os.length = pre.length + (r.length + 1) := by rw [he]; simp
    have hg : os[((pre.length : Nat) : Int).toNat]? = some y := by rw [he]; exact get_mid pre y r
    have w2 : IntKind.wrap .i64 ((pre.length : Int) - 1) = (pre.length : Int) - 1 := wrapI (by omega) (by omega)
    have hy := List.all_eq_true.1 hos y (by rw [he]; simp)
    obtain ⟨yk, yc, vs, rfl, _, hvs⟩ := oC_ex hy
    obtain ⟨hvl, hva⟩ := vsC_eq hvs
    have w3 : IntKind.wrap .i64 (n1 + (vs.length : Int)) = n1 + (vs.length : Int) := wrapI (by omega) (by omega)
    -- behind the checks
    have tail : oSnd (D.agg [D.str yk, D.slice yc vs]) = true → ltO prev yk = true → EXP P fun n => bif decide ((IntKind.wrap .i64 (n1 + (vs.length : Int))) > 256) then (some (.b false, [])) else (L (Γ mx) (W18 BK UP) 18 n (todoAt (Γ mx) 18 21) ⟨[(1, .ptr 0 [] 24), (3, .ref 22 1), (4, .i .i64 (IntKind.wrap .i64 (n1 + (vs.length : Int)))), (5, .i .i64 i), (6, .ptr 2 [] 32), (7, .i .i64 (pre.length : Int)), (8, .ptr 3 [] 59), (9, .i .i64 0)], [some (.box 24 (.d 24 (D.agg [D.int .i64 sm, D.int .u64 sn, D.int .u64 sb, D.slice sc sl]))), some (.arr 22 ids false), some (.box 32 (.d 32 (D.agg [D.str nm, D.agg [D.int .i64 md, D.int .i64 dy], D.slice c1 rs, D.slice c2 gs, D.slice c3 os, D.slice c4 us]))), some (.box 59 (.d 59 (D.agg [D.str yk, D.slice yc vs])))]⟩) := by
      intro hs hlt
      rw [w3]
      refine xp_no fun hc256 => xp_lab ?_
      have hc256 := of_decide_eq_false hc256
      refine s21 BK UP (mx := mx) (ids.length + vs.length) (by omega) (by omega) (by omega) hva hvl (fun ids' hu' hl' => ?_) vs [] ids 0 rfl rfl hu (Nat.le_refl _)
      refine s12 B hB hos hol hc r (pre ++ [D.agg [D.str yk, D.slice yc vs]]) ids' (some yk) (n1 + (vs.length : Int)) ((pre.length : Int) + 1) (by rw [he]; simp) (by simp) (fun p hp => ⟨pre, _, rfl, by cases hp; rfl⟩) (fun h => absurd h (by simp)) (by omega) (by omega) hu' (by omega) (fun h => hQ ?_)
      unfold okOs
      rw [hs]
      show (true && (ltO prev yk && (decide (n1 + (vs.length : Int) ≤ 256) && okOs (some yk) (n1 + (vs.length : Int)) r))) = true
      rw [hlt, decide_eq_true (show n1 + (vs.length : Int) ≤ 256 by omega), h]; rfl
    refine GoesP.step (xp_of (fun n => w18_12a BK UP _ n1 i _ sm sn sb sc sl ids nm md dy c1 rs c2 gs c3 os c4 us) ?_)
    rw [w2]
    refine xp_bif (fun h => ?_) (fun h => ?_)
    · refine xp_idx (by omega) hg (xp_agg (xp_lc (xp_s (xp_lc (xp_sl (xp_ln ?_))))))
      refine xp_must hy (xp_no fun hs => xp_bif (fun hk0 => ?_) (fun hk0 => ?_))
      · have hk0 := of_decide_eq_true hk0
        have hs : oSnd (D.agg [D.str yk, D.slice yc vs]) = true := by simpa using hs
        cases prev with
        | none => rw [hp2 rfl] at hk0; simp at hk0
        | some p =>
          obtain ⟨pre', o, hpre, hko⟩ := hp1 p rfl
          have hz : os[((pre.length : Int) - 1).toNat]? = some o := by
            rw [he, hpre]
            exact get_last pre' o _ rfl
          obtain ⟨zk, zc, zvs, rfl, _, _⟩ := oC_ex (List.all_eq_true.1 hos o (by rw [he, hpre]; simp))
          refine xp_idx (by omega) hz (xp_agg (xp_get rfl (xp_s (xp_no fun hlt => tail hs ?_))))
          have : lessB zk yk = true := by simpa using hlt
          have hzk : zk = p := hko
          rw [← hzk]; exact this
      · have hk0 := of_decide_eq_false hk0
        have hs : oSnd (D.agg [D.str yk, D.slice yc vs]) = true := by simpa using hs
        cases prev with
        | none => exact tail hs rfl
        | some p =>
          obtain ⟨pre', o, hpre, _⟩ := hp1 p rfl
          rw [hpre] at hk0; simp at hk0
    · have := of_decide_eq_false h; omega
end Go.Proofs.Ytapaenfafjmljaa.V

/- Lists: meta.Sound, the contract: some truth value; if it is true, the first bucket's objects are sound, in order, few. -/
namespace Go.Proofs.Ytapaenfafjmljaa.V
open Go
set_option maxRecDepth 100000
set_option linter.unusedVariables false
set_option linter.unusedSimpArgs false
variable {mx : Int}
theorem okSt_nil : okSt [] := trivial
theorem isDf_mk (a b : Int) : isDf (D.agg [D.int .i64 a, D.int .i64 b]) = true := rfl
variable (BK : Tx → Bool) (UP : D → Int → Bool)
theorem s6 {sm sn sb : Int} {sc : Cp} {sl : List D} (hsl : sl.all bkC = true) (hll : sl.length ≤ 16) :
    ∀ (rest pre ids : List D) (n1 i : Int), sl = pre ++ rest → i = (pre.length : Int) → 0 ≤ n1 → n1 ≤ 256 → ids.all isU = true → (ids.length : Int) ≤ n1 + 4 * i → (pre = [] → n1 = 0) → (pre ≠ [] → okSt sl) →
    GoesP (Γ mx) (W18 BK UP) 18 6 ⟨[(1, .ptr 0 [] 24), (3, .ref 22 1), (4, .i .i64 n1), (5, .i .i64 i)], [some (.box 24 (.d 24 (D.agg [D.int .i64 sm, D.int .u64 sn, D.int .u64 sb, D.slice sc sl]))), some (.arr 22 ids false)]⟩ (okSt sl)
  | [], pre, ids, n1, i, he, hi, h0, h256, hu, hl, hz, hP => by
    subst hi
    have hk : okSt sl := by
      cases pre with
      | nil => rw [he]; exact okSt_nil
      | cons a b => exact hP (by simp)
    have hpl : pre.length ≤ 16 := by rw [he] at hll; simp at hll; omega
    refine GoesP.step (xp_of (fun n => w18_6a BK UP _ n1 _ sm sn sb sc sl ids) ?_)
    refine xp_bif (fun h => ?_) (fun _ => xp_lab (s36 BK UP hk hu (by omega) ids.length 0 (by omega) (by omega)))
    have := of_decide_eq_true h; rw [he] at this; simp at this
  | y :: r, pre, ids, n1, i, he, hi, h0, h256, hu, hl, hz, hP => by
    subst hi
    have hlen : sl.length = pre.length + (r.length + 1) := by rw [he]; simp
    have hg : sl[((pre.length : Nat) : Int).toNat]? = some y := by rw [he]; exact get_mid pre y r
    have w2 : IntKind.wrap .i64 ((pre.length : Int) - 1) = (pre.length : Int) - 1 := wrapI (by omega) (by omega)
    have hy := List.all_eq_true.1 hsl y (by rw [he]; simp)
    obtain ⟨nm, md, dy, c1, rs, c2, gs, c3, os, c4, us, hye, k1, k2, k3, k4, k5, k6⟩ := bkC_ex hy
    have hQ : okOs none n1 os = true → okSt sl := fun h => by
      cases pre with
      | nil =>
        rw [he]
        show okOs none 0 (bObj y) = true
        rw [hz rfl] at h
        rw [hye]; exact h
      | cons a b => exact hP (by simp)
    have tail : us.length ≤ 4 → GoesP (Γ mx) (W18 BK UP) 18 12 ⟨[(1, .ptr 0 [] 24), (3, .ref 22 1), (4, .i .i64 n1), (5, .i .i64 (pre.length : Int)), (6, .ptr 2 [] 32), (7, .i .i64 0)], [some (.box 24 (.d 24 (D.agg [D.int .i64 sm, D.int .u64 sn, D.int .u64 sb, D.slice sc sl]))), some (.arr 22 ids false), some (.box 32 (.d 32 (D.agg [D.str nm, D.agg [D.int .i64 md, D.int .i64 dy], D.slice c1 rs, D.slice c2 gs, D.slice c3 os, D.slice c4 us])))]⟩ (okSt sl) := by
      intro h4
      refine s12 BK UP (mx := mx) (Q := okSt sl) (4 * pre.length) (by omega) k4 k5 (fun n1' ids' g0 g256 gu gl hq => ?_) os [] ids none n1 0 rfl rfl (fun p hp => by cases hp) (fun _ => rfl) h0 h256 hu (by omega) hQ
      refine s28 BK UP (mx := mx) (ids'.length + us.length) (by omega) (by omega) (by omega) k6 h4 (fun ids2 u2 l2 => ?_) us [] ids' 0 rfl rfl gu (Nat.le_refl _)
      exact s6 hsl hll r (pre ++ [y]) ids2 n1' ((pre.length : Int) + 1) (by rw [he]; simp) (by simp) g0 g256 u2 (by omega) (fun e => absurd e (by simp)) (fun _ => hq)
    subst hye
    refine GoesP.step (xp_of (fun n => w18_6a BK UP _ n1 _ sm sn sb sc sl ids) ?_)
    rw [w2]
    refine xp_bif (fun h => ?_) (fun h => ?_)
    · refine xp_idx (by omega) hg (xp_agg (xp_lc (xp_s (xp_lc (xp_agg (xp_lc (xp_i (xp_lc (xp_i (xp_ln (xp_lc (xp_sl (xp_lc (xp_sl (xp_lc (xp_sl (xp_lc (xp_sl (xp_ln ?_)))))))))))))))))))
      refine xp_must k1 (xp_no fun _ => xp_bif (fun hi0 => ?_) (fun _ => ?_))
      · have hi0 := of_decide_eq_true hi0
        obtain ⟨z, hz', hm⟩ := get_some (l := sl) (i := (pre.length : Int) - 1) (by omega) (by omega)
        obtain ⟨znm, zmd, zdy, zc1, zrs, zc2, zgs, zc3, zos, zc4, zus, rfl, _⟩ := bkC_ex (List.all_eq_true.1 hsl z hm)
        refine xp_idx (by omega) hz' (xp_agg (xp_get rfl (xp_s (xp_no fun _ => ?_))))
        exact xp_must (isDf_mk _ _) (xp_no fun _ => xp_must k2 (xp_no fun _ => xp_must k3 (xp_no fun _ => xp_no fun h4 => xp_lab (tail (by have := of_decide_eq_false h4; omega)))))
      · exact xp_must (isDf_mk _ _) (xp_no fun _ => xp_must k2 (xp_no fun _ => xp_must k3 (xp_no fun _ => xp_no fun h4 => xp_lab (tail (by have := of_decide_eq_false h4; omega)))))
    · have := of_decide_eq_false h; omega
theorem W18_ok : CallsOK (Γ mx) (W18 (bktB mx) (upB mx)) := specs_ok (.cons (spClamp_ok k99) (.cons (sp1_ok c31') (.cons (spD1_ok l32) (.cons (spL1_ok k16) (.cons (spL1_ok c17) (.cons (spD1_ok k17) (.cons spUp_ok .nil)))))))
def stL : D → List D
  | .agg [.int .i64 _, .int .u64 _, .int .u64 _, .slice _ l] => l
  | _ => []
theorem l18 (s : D) (h : stC s = true) : ∃ b, RetX (Γ mx) 18 [.d 24 s] [] (.b b) [] ∧ (b = true → okSt (stL s)) := by
  obtain ⟨m, n, b, c, l, rfl, hl⟩ := stC_ex h
  have : EXP (okSt l) fun k => evF (Γ mx) (W18 (bktB mx) (upB mx)) (L (Γ mx) (W18 (bktB mx) (upB mx)) 18 k) 18 [.d 24 (D.agg [D.int .i64 m, D.int .u64 n, D.int .u64 b, D.slice c l])] [] := by
    refine xp_of (fun k => w18 (bktB mx) (upB mx) _ m n b c l) ?_
    refine xp_no fun _ => xp_no fun _ => xp_no fun _ => xp_no fun _ => xp_no fun _ => xp_no fun h16 => xp_lab ?_
    have := of_decide_eq_false h16
    exact s6 (bktB mx) (upB mx) hl (by omega) l [] [] 0 0 rfl rfl (by omega) (by omega) rfl (by simp) (fun _ => rfl) (fun e => absurd rfl e)
  obtain ⟨k, r, hk, hp⟩ := this
  exact ⟨r, ret_goes (Γ := Γ mx) hP hZ W18_ok (by kernel_rfl) ⟨k, hk⟩, hp⟩
open Classical in
noncomputable def sndB (mx : Int) (s : D) : Bool := if h : ∃ b, RetX (Γ mx) 18 [.d 24 s] [] (.b b) [] ∧ (b = true → okSt (stL s)) then Classical.choose h else false
theorem c18' (s : D) (h : stC s = true) : RetX (Γ mx) 18 [.d 24 s] [] (.b (sndB mx s)) [] := by
  have he := l18 (mx := mx) s h
  unfold sndB
  rw [dif_pos he]
  exact (Classical.choose_spec he).1
theorem snd_ok {s : D} (h : stC s = true) (hs : sndB mx s = true) : okSt (stL s) := by
  have he := l18 (mx := mx) s h
  unfold sndB at hs
  rw [dif_pos he] at hs
  exact (Classical.choose_spec he).2 hs
end Go.Proofs.Ytapaenfafjmljaa.V

/- Lists: what the machine over values makes of the functions: equations, written by program. -/
namespace Go.Proofs.Ytapaenfafjmljaa.V
open Go
set_option maxRecDepth 100000
set_option linter.unusedVariables false
set_option linter.unusedSimpArgs false
variable {mx : Int}
def gC (k p m : Tx) : Bool := short k && (short p && short m)
def grpS (k p m : Tx) : Tx := (grpO k p m).getD []
def grpB (k p m : Tx) : Bool := (grpO k p m).isSome
def spRow : List AV → Option (Bool × AV)
  | [.s k, .d 52 v, .b l] => some (vC v, .d 54 (mkRow k false (cloneD v) l))
  | _ => none
def rw1 : D → Bool
  | .agg [.str _, .bool _, v, .bool _] => vC v
  | _ => false
def rwC (l : List D) : Bool := decide (l.length ≤ 8388608) && l.all rw1
def pgC (n : Int) : Bool := decide (0 ≤ n)
def spPg : List AV → Option (Bool × AV)
  | [.sl 54 _ l, .i .i64 n] => some (pgC n, .tuple [.sl 54 .any (List.take (Int.toNat n) l), .b (decide (n < (List.length l : Int)))])
  | _ => none
def isSp : D → Bool
  | .agg [.str _, .str _, .int .u64 _] => true
  | _ => false
def spK : D → Tx
  | .agg [.str _, .str k, .int _ _] => k
  | _ => []
def spI : D → Int
  | .agg [.str _, .str _, .int _ i] => i
  | _ => 0
/-- is there a page of so many? -/
def pgE (n : Int) : Int := bif decide (n < 1) then 1 else bif decide (n > 100) then 1 else 0
def vRows (b : D) (p : Tx) (s : D) : List (Vr Ver) := rowsV (fun k => hpB k p) Ver.id ((bObj b).map oP) (spK s) (spI s)
def vyL (f : Vr Ver → D) (b : D) (p : Tx) (s : D) (n : Int) : List D := bif pgE n == 0 then ((vRows b p s).take n.toNat).map f else []
def vyM (b : D) (p : Tx) (s : D) (n : Int) : Bool := pgE n == 0 && decide (n < ((vRows b p s).length : Int))
def totV : List D → Nat
  | [] => 0
  | o :: r => (oVs o).length + totV r
/-- a bucket of few versions -/
def bkS (b : D) : Bool := bkC b && decide (totV (bObj b) ≤ 4096)
def spVy (f : Vr Ver → D) : List AV → Option (Bool × AV)
  | [.d 32 b, .s p, .d 43 s, .i .i64 n] => some (bkS b && isSp s, .tuple [.sl 54 .any (vyL f b p s n), .b (vyM b p s n), .i .i64 (pgE n)])
  | _ => none
def kRows (b : D) (p m a : Tx) : List (Rw Ver) := rowsF (kitV p m) ((bObj b).map kvO) a
def kyL (f : Rw Ver → D) (b : D) (p m a : Tx) (n : Int) : List D := bif pgE n == 0 then ((kRows b p m a).take n.toNat).map f else []
def kyM (b : D) (p m a : Tx) (n : Int) : Bool := pgE n == 0 && decide (n < ((kRows b p m a).length : Int))
def spKy (f : Rw Ver → D) : List AV → Option (Bool × AV)
  | [.d 32 b, .s p, .s m, .s a, .i .i64 n] => some (bkS b && gC p m a, .tuple [.sl 54 .any (kyL f b p m a n), .b (kyM b p m a n), .i .i64 (pgE n)])
  | _ => none
def bk0 : D := .agg [.str [], .agg [.int .i64 0, .int .i64 0], .slice .nl [], .slice .nl [], .slice .nl [], .slice .nl []]
noncomputable def firB (mx : Int) (s : D) : Bool := sndB mx s && !(stL s).isEmpty
noncomputable def firD (mx : Int) (s : D) : D := bif firB mx s then (stL s).headD bk0 else bk0
def xAdd : List AV → Objs → Option (Bool × AV × Objs)
  | [.ptr 0 [] 69, .d 54 (.agg fs)], [some (.box 69 (.d 69 (.agg [.slice .nl [], .int .i64 m, .bool b])))] => some (!((0 : Int) == m), .b true, [some (.box 69 (.agg 69 [.ref 54 1, .i .i64 m, .b b])), some (.arr 54 [.agg fs] false)])
  | [.ptr 0 [] 69, .d 54 (.agg fs)], [some (.box 69 (.agg 69 [.ref 54 1, .i .i64 m, .b b])), some (.arr 54 l false)] => some (roomB (List.length l + 1) 152, .b (!((List.length l : Int) == m)), [some (.box 69 (.agg 69 [.ref 54 1, .i .i64 m, .b (b || ((List.length l : Int) == m))])), some (.arr 54 (bif ((List.length l : Int) == m) then l else l ++ [.agg fs]) false)])
  | _, _ => none
theorem nw22 (lab : Lab) (fs : List D) (m : Int) (b : Bool) : evF (Γ mx) (runS []) lab 22 [.ptr 0 [] 69, .d 54 (D.agg fs)] [some (.box 69 (.d 69 (D.agg [D.slice .nl [], D.int .i64 m, D.bool b])))] =
  bif 0 == m then (some (.b false, [some (.box 69 (.d 69 (D.agg [D.slice .nl [], D.int .i64 m, D.bool true])))])) else (some (.b true, [some (.box 69 (.agg 69 [.ref 54 1, .i .i64 m, .b b])), some (.arr 54 [D.agg fs] false)])) := by kernel_rfl
theorem aw22 (lab : Lab) (fs : List D) (m : Int) (b : Bool) (l : List D) : evF (Γ mx) (runS []) lab 22 [.ptr 0 [] 69, .d 54 (D.agg fs)] [some (.box 69 (.agg 69 [.ref 54 1, .i .i64 m, .b b])), some (.arr 54 l false)] =
  bif ((l.length : Int)) == m then (some (.b false, [some (.box 69 (.agg 69 [.ref 54 1, .i .i64 m, .b true])), some (.arr 54 l false)])) else (bif roomB (l.length + 1) 152 then (some (.b true, [some (.box 69 (.agg 69 [.ref 54 1, .i .i64 m, .b b])), some (.arr 54 (l ++ [D.agg fs]) false)])) else none) := by kernel_rfl
def W20 : Handle := runS [⟨38, dat (spD1 52 vC fun v => .d 52 (cloneD v))⟩]
theorem w20 (lab : Lab) (k : List UInt8) (vid : Int) (vmk : Bool) (vsz : Int) (vbl : Int) (vdg : List D) (vcr : Int) (vmd : Int) (vun : Int) (vho : Bool) (vc : Cp) (vtg : List D) (l : Bool) : evF (Γ mx) W20 lab 20 [.s k, .d 52 (D.agg [D.int .u64 vid, D.bool vmk, D.int .i64 vsz, D.int .u64 vbl, D.agg vdg, D.int .i64 vcr, D.agg [D.int .i64 vmd, D.int .i64 vun, D.bool vho], D.slice vc vtg]), .b l] [] =
  bif vC (D.agg [D.int .u64 vid, D.bool vmk, D.int .i64 vsz, D.int .u64 vbl, D.agg vdg, D.int .i64 vcr, D.agg [D.int .i64 vmd, D.int .i64 vun, D.bool vho], D.slice vc vtg]) then (dAgg ((cloneD (D.agg [D.int .u64 vid, D.bool vmk, D.int .i64 vsz, D.int .u64 vbl, D.agg vdg, D.int .i64 vcr, D.agg [D.int .i64 vmd, D.int .i64 vun, D.bool vho], D.slice vc vtg]))) fun y1 => lCons y1 fun a2 r3 => dInt .u64 a2 fun n4 => lCons r3 fun a5 r6 => dBool a5 fun b7 => lCons r6 fun a8 r9 => dInt .i64 a8 fun n10 => lCons r9 fun a11 r12 => dInt .u64 a11 fun n13 => lCons r12 fun a14 r15 => dAgg a14 fun y16 => lCons r15 fun a17 r18 => dInt .i64 a17 fun n19 => lCons r18 fun a20 r21 => dAgg a20 fun y22 => lCons y22 fun a23 r24 => dInt .i64 a23 fun n25 => lCons r24 fun a26 r27 => dInt .i64 a26 fun n28 => lCons r27 fun a29 r30 => dBool a29 fun b31 => lNil r30 (lCons r21 fun a32 r33 => dSlice a32 fun c34 l35 => lNil r33 (some (.d 54 (D.agg [D.str k, D.bool false, D.agg [D.int .u64 n4, D.bool b7, D.int .i64 n10, D.int .u64 n13, D.agg y16, D.int .i64 n19, D.agg [D.int .i64 n25, D.int .i64 n28, D.bool b31], D.slice c34 l35], D.bool l]), [])))) else none := by kernel_rfl
def W26 : Handle := runS [⟨41, dat (spLL 82 82 (fun a b => tC a && tC b) fun a b => .b (sameT a b))⟩]
theorem w26 (lab : Lab) (vid : Int) (vmk : Bool) (vsz : Int) (vbl : Int) (vdg : List D) (vcr : Int) (vmd : Int) (vun : Int) (vho : Bool) (vc : Cp) (vtg : List D) (wid : Int) (wmk : Bool) (wsz : Int) (wbl : Int) (wdg : List D) (wcr : Int) (wmd : Int) (wun : Int) (who : Bool) (wc : Cp) (wtg : List D) : evF (Γ mx) W26 lab 26 [.d 52 (D.agg [D.int .u64 vid, D.bool vmk, D.int .i64 vsz, D.int .u64 vbl, D.agg vdg, D.int .i64 vcr, D.agg [D.int .i64 vmd, D.int .i64 vun, D.bool vho], D.slice vc vtg]), .d 52 (D.agg [D.int .u64 wid, D.bool wmk, D.int .i64 wsz, D.int .u64 wbl, D.agg wdg, D.int .i64 wcr, D.agg [D.int .i64 wmd, D.int .i64 wun, D.bool who], D.slice wc wtg])] [] =
  bif vid != wid then (some (.b false, [])) else (bif !(vmk == wmk) then (some (.b false, [])) else (bif vsz != wsz then (some (.b false, [])) else (bif vbl != wbl then (some (.b false, [])) else (bif vcr != wcr then (some (.b false, [])) else (bif !(eqD (D.agg [D.int .i64 vmd, D.int .i64 vun, D.bool vho]) (D.agg [D.int .i64 wmd, D.int .i64 wun, D.bool who])) then (some (.b false, [])) else (bif eqD (D.agg vdg) (D.agg wdg) then (bif tC vtg && tC wtg then (some (.b (sameT vtg wtg), [])) else none) else (some (.b false, [])))))))) := by kernel_rfl
def W12 : Handle := runS [⟨26, dat (spDD 52 52 (fun a b => vC a && vC b) fun a b => .b (sameVD a b))⟩]
theorem w12 (lab : Lab) (a : List D) (l : List D) : evF (Γ mx) W12 lab 12 [.sl 54 .any a, .sl 54 .any l] [] =
  bif ((a.length : Int)) != ((l.length : Int)) then (some (.b false, [])) else (lab (todoAt (Γ mx) 12 4) ⟨[(0, .sl 54 .any a), (1, .sl 54 .any l), (5, .i .i64 0)], []⟩) := by kernel_rfl
theorem w12_4a (lab : Lab) (l1 : List D) (l2 : List D) (n3 : Int) : evL (Γ mx) W12 lab 12 4 ⟨[(0, .sl 54 .any l1), (1, .sl 54 .any l2), (5, .i .i64 n3)], []⟩ =
  bif decide (n3 < ((l1.length : Int))) then (idx l1 n3 fun y4 => dAgg y4 fun y5 => lGet y5 0 fun y6 => dStr y6 fun s7 => idx l2 n3 fun y8 => dAgg y8 fun y9 => lGet y9 0 fun y10 => dStr y10 fun s11 => bif !(s7 == s11) then (some (.b false, [])) else (idx l1 n3 fun y12 => dAgg y12 fun y13 => lGet y13 1 fun y14 => dBool y14 fun b15 => idx l2 n3 fun y16 => dAgg y16 fun y17 => lGet y17 1 fun y18 => dBool y18 fun b19 => bif !(b15 == b19) then (some (.b false, [])) else (idx l1 n3 fun y20 => dAgg y20 fun y21 => lGet y21 3 fun y22 => dBool y22 fun b23 => idx l2 n3 fun y24 => dAgg y24 fun y25 => lGet y25 3 fun y26 => dBool y26 fun b27 => bif !(b23 == b27) then (some (.b false, [])) else (idx l1 n3 fun y28 => dAgg y28 fun y29 => lGet y29 2 fun y30 => dAgg y30 fun y31 => lCons y31 fun a32 r33 => dInt .u64 a32 fun n34 => lCons r33 fun a35 r36 => dBool a35 fun b37 => lCons r36 fun a38 r39 => dInt .i64 a38 fun n40 => lCons r39 fun a41 r42 => dInt .u64 a41 fun n43 => lCons r42 fun a44 r45 => dAgg a44 fun y46 => lCons r45 fun a47 r48 => dInt .i64 a47 fun n49 => lCons r48 fun a50 r51 => dAgg a50 fun y52 => lCons y52 fun a53 r54 => dInt .i64 a53 fun n55 => lCons r54 fun a56 r57 => dInt .i64 a56 fun n58 => lCons r57 fun a59 r60 => dBool a59 fun b61 => lNil r60 (lCons r51 fun a62 r63 => dSlice a62 fun c64 l65 => lNil r63 (idx l2 n3 fun y66 => dAgg y66 fun y67 => lGet y67 2 fun y68 => dAgg y68 fun y69 => lCons y69 fun a70 r71 => dInt .u64 a70 fun n72 => lCons r71 fun a73 r74 => dBool a73 fun b75 => lCons r74 fun a76 r77 => dInt .i64 a76 fun n78 => lCons r77 fun a79 r80 => dInt .u64 a79 fun n81 => lCons r80 fun a82 r83 => dAgg a82 fun y84 => lCons r83 fun a85 r86 => dInt .i64 a85 fun n87 => lCons r86 fun a88 r89 => dAgg a88 fun y90 => lCons y90 fun a91 r92 => dInt .i64 a91 fun n93 => lCons r92 fun a94 r95 => dInt .i64 a94 fun n96 => lCons r95 fun a97 r98 => dBool a97 fun b99 => lNil r98 (lCons r89 fun a100 r101 => dSlice a100 fun c102 l103 => lNil r101 (bif vC (D.agg [D.int .u64 n34, D.bool b37, D.int .i64 n40, D.int .u64 n43, D.agg y46, D.int .i64 n49, D.agg [D.int .i64 n55, D.int .i64 n58, D.bool b61], D.slice c64 l65]) && vC (D.agg [D.int .u64 n72, D.bool b75, D.int .i64 n78, D.int .u64 n81, D.agg y84, D.int .i64 n87, D.agg [D.int .i64 n93, D.int .i64 n96, D.bool b99], D.slice c102 l103]) then (bif !(sameVD (D.agg [D.int .u64 n34, D.bool b37, D.int .i64 n40, D.int .u64 n43, D.agg y46, D.int .i64 n49, D.agg [D.int .i64 n55, D.int .i64 n58, D.bool b61], D.slice c64 l65]) (D.agg [D.int .u64 n72, D.bool b75, D.int .i64 n78, D.int .u64 n81, D.agg y84, D.int .i64 n87, D.agg [D.int .i64 n93, D.int .i64 n96, D.bool b99], D.slice c102 l103])) then (some (.b false, [])) else (lab (todoAt (Γ mx) 12 4) ⟨[(0, .sl 54 .any l1), (1, .sl 54 .any l2), (5, .i .i64 (IntKind.wrap .i64 (n3 + 1)))], []⟩)) else none)))))))) else (some (.b true, [])) := by kernel_rfl
theorem w25 (lab : Lab) (l : List D) (n : Int) : evF (Γ mx) (runS []) lab 25 [.sl 54 .any l, .i .i64 n] [] =
  bif decide (((l.length : Int)) > n) then (bif decide ((0:Int) ≤ n) && decide (n ≤ (l.length : Int)) then (some (.tuple [.sl 54 .any (List.take ((Int.toNat n) - 0) (List.drop 0 l)), .b true], [])) else none) else (some (.tuple [.sl 54 .any l, .b false], [])) := by kernel_rfl
noncomputable def W8 (mx : Int) : Handle := runS [⟨18, dat (spD1 24 stC fun s => .b (sndB mx s))⟩]
theorem w8 (lab : Lab) (sm : Int) (sn : Int) (sb : Int) (sc : Cp) (sl : List D) : evF (Γ mx) (W8 mx) lab 8 [.d 24 (D.agg [D.int .i64 sm, D.int .u64 sn, D.int .u64 sb, D.slice sc sl])] [] =
  bif stC (D.agg [D.int .i64 sm, D.int .u64 sn, D.int .u64 sb, D.slice sc sl]) then (bif !(sndB mx (D.agg [D.int .i64 sm, D.int .u64 sn, D.int .u64 sb, D.slice sc sl])) then (some (.tuple [.d 32 (D.agg [D.str ([] : List UInt8), D.agg [D.int .i64 0, D.int .i64 0], D.slice .nl [], D.slice .nl [], D.slice .nl [], D.slice .nl []]), .b false], [])) else (bif ((sl.length : Int)) == 0 then (some (.tuple [.d 32 (D.agg [D.str ([] : List UInt8), D.agg [D.int .i64 0, D.int .i64 0], D.slice .nl [], D.slice .nl [], D.slice .nl [], D.slice .nl []]), .b false], [])) else (idx sl 0 fun y1 => dAgg y1 fun y2 => lCons y2 fun a3 r4 => dStr a3 fun s5 => lCons r4 fun a6 r7 => dAgg a6 fun y8 => lCons y8 fun a9 r10 => dInt .i64 a9 fun n11 => lCons r10 fun a12 r13 => dInt .i64 a12 fun n14 => lNil r13 (lCons r7 fun a15 r16 => dSlice a15 fun c17 l18 => lCons r16 fun a19 r20 => dSlice a19 fun c21 l22 => lCons r20 fun a23 r24 => dSlice a23 fun c25 l26 => lCons r24 fun a27 r28 => dSlice a27 fun c29 l30 => lNil r28 (some (.tuple [.d 32 (D.agg [D.str s5, D.agg [D.int .i64 n11, D.int .i64 n14], D.slice c17 l18, D.slice c21 l22, D.slice c25 l26, D.slice c29 l30]), .b true], [])))))) else none := by kernel_rfl
end Go.Proofs.Ytapaenfafjmljaa.V

/- Lists: contracts of the small functions: a row, a page, rows held against rows, the first bucket. -/
namespace Go.Proofs.Ytapaenfafjmljaa.V
open Go
set_option maxRecDepth 100000
set_option linter.unusedVariables false
set_option linter.unusedSimpArgs false
variable {mx : Int}
/-! ### some number of rounds comes to this -/
section
variable {r : AV × Objs} {Γ : Ctx} {H : Handle} {f : FuncId} {key : Nat} {st : St}
def EXR (r : AV × Objs) (R : Nat → Option (AV × Objs)) : Prop := ∃ n, R n = some r
theorem Goes.er (h : EXR r fun n => evL Γ H (L Γ H f n) f key st) : Goes Γ H f key st r := Goes.step h
theorem er_of {R R' : Nat → Option (AV × Objs)} (h : ∀ n, R n = R' n) (h' : EXR r R') : EXR r R := by
  obtain ⟨n, h1⟩ := h'
  exact ⟨n, (h n).trans h1⟩
theorem er_lab (h : Goes Γ H f key st r) : EXR r fun n => L Γ H f n (todoAt Γ f key) st := h
theorem er_some : EXR r fun _ => some r := ⟨0, rfl⟩
theorem er_is {r' : AV × Objs} (h : r' = r) : EXR r fun _ => some r' := ⟨0, by rw [h]⟩
theorem er_t {c : Bool} {X Y : Nat → Option (AV × Objs)} (hc : c = true) (h : EXR r X) : EXR r fun n => bif c then X n else Y n := by subst hc; exact h
theorem er_f {c : Bool} {X Y : Nat → Option (AV × Objs)} (hc : c = false) (h : EXR r Y) : EXR r fun n => bif c then X n else Y n := by subst hc; exact h
theorem er_if {c : Bool} {X Y : Nat → Option (AV × Objs)} (h1 : c = true → EXR r X) (h2 : c = false → EXR r Y) : EXR r fun n => bif c then X n else Y n := by
  cases c with
  | true => exact h1 rfl
  | false => exact h2 rfl
theorem er_idx {α : Type} {l : List α} {i : Int} {y : α} {K : Nat → α → Option (AV × Objs)} (h0 : 0 ≤ i) (h : l[i.toNat]? = some y) (h' : EXR r fun n => K n y) : EXR r fun n => idx l i (K n) := by
  obtain ⟨n, h1⟩ := h'
  refine ⟨n, ?_⟩
  show idx l i (K n) = _
  unfold idx lGet
  rw [decide_eq_true h0, cond_true, h]
  exact h1
theorem er_get {α : Type} {l : List α} {i : Nat} {y : α} {K : Nat → α → Option (AV × Objs)} (h : l[i]? = some y) (h' : EXR r fun n => K n y) : EXR r fun n => lGet l i (K n) := by
  obtain ⟨n, h1⟩ := h'
  refine ⟨n, ?_⟩
  show lGet l i (K n) = _
  unfold lGet
  rw [h]
  exact h1
theorem er_agg {ys : List D} {K : Nat → List D → Option (AV × Objs)} (h : EXR r fun n => K n ys) : EXR r fun n => dAgg (.agg ys) (K n) := h
theorem er_lc {α : Type} {x : α} {q : List α} {K : Nat → α → List α → Option (AV × Objs)} (h : EXR r fun n => K n x q) : EXR r fun n => lCons (x :: q) (K n) := h
theorem er_ln {α : Type} {K : Nat → Option (AV × Objs)} (h : EXR r fun n => K n) : EXR r fun n => lNil ([] : List α) (K n) := h
theorem er_i {x : Int} {K : Nat → Int → Option (AV × Objs)} (h : EXR r fun n => K n x) : EXR r fun n => dInt .i64 (.int .i64 x) (K n) := h
theorem er_u {x : Int} {K : Nat → Int → Option (AV × Objs)} (h : EXR r fun n => K n x) : EXR r fun n => dInt .u64 (.int .u64 x) (K n) := h
theorem er_s {x : List UInt8} {K : Nat → List UInt8 → Option (AV × Objs)} (h : EXR r fun n => K n x) : EXR r fun n => dStr (.str x) (K n) := h
theorem er_b {x : Bool} {K : Nat → Bool → Option (AV × Objs)} (h : EXR r fun n => K n x) : EXR r fun n => dBool (.bool x) (K n) := h
theorem er_sl {c : Cp} {x : List D} {K : Nat → Cp → List D → Option (AV × Objs)} (h : EXR r fun n => K n c x) : EXR r fun n => dSlice (.slice c x) (K n) := h
/-- three conditions lead away; otherwise on -/
theorem er3s {A B C : Bool} {S T : Nat → Option (AV × Objs)} (h : (A && (B && C)) = true) (hS : EXR r S) : EXR r fun n => bif A then (bif B then (bif C then S n else T n) else T n) else T n := by
  cases A <;> cases B <;> cases C <;> first | exact hS | exact absurd h (by simp)
theorem er3t {A B C : Bool} {S T : Nat → Option (AV × Objs)} (h : (A && (B && C)) = false) (hT : EXR r T) : EXR r fun n => bif A then (bif B then (bif C then S n else T n) else T n) else T n := by
  cases A <;> cases B <;> cases C <;> first | exact hT | exact absurd h (by simp)
theorem er4t {A B C E : Bool} {S T : Nat → Option (AV × Objs)} (h : (A || (B || (C && E))) = true) (hT : EXR r T) : EXR r fun n => bif A then T n else (bif B then T n else (bif C then (bif E then T n else S n) else S n)) := by
  cases A <;> cases B <;> cases C <;> cases E <;> first | exact hT | exact absurd h (by simp)
theorem er4s {A B C E : Bool} {S T : Nat → Option (AV × Objs)} (h : (A || (B || (C && E))) = false) (hS : EXR r S) : EXR r fun n => bif A then T n else (bif B then T n else (bif C then (bif E then T n else S n) else S n)) := by
  cases A <;> cases B <;> cases C <;> cases E <;> first | exact hS | exact absurd h (by simp)
end
/-! ### a row, a page -/
theorem W20_ok : CallsOK (Γ mx) W20 := specs_ok (.cons (spD1_ok c127) .nil)
theorem spRow_ok : SpecOK (Γ mx) ⟨20, dat spRow⟩ := dat_ok fun args r hr => by
  unfold spRow at hr
  split at hr
  · rename_i k v l
    simp only [Option.some.injEq, Prod.mk.injEq] at hr
    obtain ⟨h1, rfl⟩ := hr
    obtain ⟨w, rfl, _⟩ := vC_ex h1
    refine ret_goes (Γ := Γ mx) hP hZ W20_ok (by kernel_rfl) ⟨0, ?_⟩
    refine (w20 _ k w.id w.mr w.sz w.bl w.dg w.cr w.md w.un w.ho w.c w.tg l).trans ?_
    rw [show vC (D.agg [D.int .u64 w.id, D.bool w.mr, D.int .i64 w.sz, D.int .u64 w.bl, D.agg w.dg, D.int .i64 w.cr, D.agg [D.int .i64 w.md, D.int .i64 w.un, D.bool w.ho], D.slice w.c w.tg]) = true from h1]
    rfl
  · exact absurd hr (by simp)
theorem spPg_ok : SpecOK (Γ mx) ⟨25, dat spPg⟩ := dat_ok fun args r hr => by
  unfold spPg at hr
  split at hr
  · rename_i c l n
    simp only [Option.some.injEq, Prod.mk.injEq] at hr
    obtain ⟨h1, rfl⟩ := hr
    have h1 : 0 ≤ n := of_decide_eq_true h1
    refine RetX.anyc ?_
    refine ret_goes (Γ := Γ mx) hP hZ none_ok (by kernel_rfl) ⟨0, ?_⟩
    rw [w25]
    by_cases h : (l.length : Int) > n
    · rw [decide_eq_true h, decide_eq_true h1, decide_eq_true (show n ≤ (l.length : Int) by omega)]
      rfl
    · rw [decide_eq_false h, show List.take n.toNat l = l from List.take_of_length_le (by omega)]
      rfl
  · exact absurd hr (by simp)
theorem xAdd_ok : SpecOK (Γ mx) ⟨22, xAdd⟩ := by
  intro args obs r obs' hr
  change xAdd args obs = some (true, r, obs') at hr
  unfold xAdd at hr
  split at hr
  · rename_i fs m b
    simp only [Option.some.injEq, Prod.mk.injEq] at hr
    obtain ⟨h1, rfl, rfl⟩ := hr
    refine ret_goes (Γ := Γ mx) hP hZ none_ok (by kernel_rfl) ⟨0, ?_⟩
    rw [nw22, show ((0 : Int) == m) = false by simpa using h1]
    rfl
  · rename_i fs m b l
    simp only [Option.some.injEq, Prod.mk.injEq] at hr
    obtain ⟨h1, rfl, rfl⟩ := hr
    refine ret_goes (Γ := Γ mx) hP hZ none_ok (by kernel_rfl) ⟨0, ?_⟩
    rw [aw22, h1]
    cases hc : ((List.length l : Int) == m) with
    | true => rw [Bool.or_true]; rfl
    | false => rw [Bool.or_false]; rfl
  · exact absurd hr (by simp)
/-! ### sameness -/
theorem rowsS_lenD : ∀ {a b : List D}, a.length ≠ b.length → rowsS a b = false
  | [], [], h => absurd rfl h
  | [], _ :: _, _ => rfl
  | _ :: _, [], _ => rfl
  | x :: a, y :: b, h => by
    rw [rowsS, rowsS_lenD (a := a) (b := b) (fun e => h (by simp [e])), Bool.and_false]
theorem W26_ok : CallsOK (Γ mx) W26 := specs_ok (.cons (spLL_ok c25) .nil)
theorem c26' (d e : D) (h : (vC d && vC e) = true) : RetX (Γ mx) 26 [.d 52 d, .d 52 e] [] (.b (sameVD d e)) [] := by
  simp only [Bool.and_eq_true] at h
  obtain ⟨v, rfl, h1⟩ := vC_ex h.1
  obtain ⟨w, rfl, h2⟩ := vC_ex h.2
  refine ret_goes (Γ := Γ mx) hP hZ W26_ok (by kernel_rfl) ⟨0, ?_⟩
  refine (w26 _ v.id v.mr v.sz v.bl v.dg v.cr v.md v.un v.ho v.c v.tg w.id w.mr w.sz w.bl w.dg w.cr w.md w.un w.ho w.c w.tg).trans ?_
  rw [h1, h2]
  show _ = some (AV.b (v.id == w.id && (v.mr == w.mr && (v.sz == w.sz && (v.bl == w.bl && (v.cr == w.cr && (eqD (lkV v) (lkV w) && (eqD (.agg v.dg) (.agg w.dg) && sameT v.tg w.tg))))))), [])
  rw [bne, bne, bne, bne]
  show _ = some (AV.b (v.id == w.id && (v.mr == w.mr && (v.sz == w.sz && (v.bl == w.bl && (v.cr == w.cr && (eqD (D.agg [D.int .i64 v.md, D.int .i64 v.un, D.bool v.ho]) (D.agg [D.int .i64 w.md, D.int .i64 w.un, D.bool w.ho]) && (eqD (.agg v.dg) (.agg w.dg) && sameT v.tg w.tg))))))), [])
  cases v.id == w.id <;> cases v.mr == w.mr <;> cases v.sz == w.sz <;> cases v.bl == w.bl <;> cases v.cr == w.cr <;> first | rfl | skip
  cases eqD (D.agg [D.int .i64 v.md, D.int .i64 v.un, D.bool v.ho]) (D.agg [D.int .i64 w.md, D.int .i64 w.un, D.bool w.ho]) <;> cases eqD (.agg v.dg) (.agg w.dg) <;> rfl
theorem W12_ok : CallsOK (Γ mx) W12 := specs_ok (.cons (spDD_ok c26') .nil)
theorem rw1_ex {d : D} (h : rw1 d = true) : ∃ k g v l, d = .agg [.str k, .bool g, vD v, .bool l] ∧ vC (vD v) = true := by
  unfold rw1 at h
  split at h
  · obtain ⟨v, rfl, _⟩ := vC_ex h; exact ⟨_, _, _, _, rfl, h⟩
  · exact absurd h (by simp)
theorem g12 (A B : List D) (hA : A.all rw1 = true) (hB : B.all rw1 = true) (hl : A.length = B.length) (hs : A.length ≤ 8388608) : ∀ (a b pa pb : List D) (i : Int), A = pa ++ a → B = pb ++ b → pa.length = pb.length → i = (pa.length : Int) →
    Goes (Γ mx) W12 12 4 ⟨[(0, .sl 54 .any A), (1, .sl 54 .any B), (5, .i .i64 i)], []⟩ (.b (rowsS a b), [])
  | [], b, pa, pb, i, ha, hb, hp, hi => by
    subst hi
    have hb0 : b = [] := by
      have h1 := congrArg List.length ha
      have h2 := congrArg List.length hb
      simp at h1 h2
      exact List.length_eq_zero_iff.1 (by omega)
    subst hb0
    refine Goes.er (er_of (fun n => w12_4a _ A B _) (er_f (decide_eq_false ?_) er_some))
    rw [ha]; simp
  | x :: a, b, pa, pb, i, ha, hb, hp, hi => by
    subst hi
    cases b with
    | nil =>
      exfalso
      have h1 := congrArg List.length ha
      have h2 := congrArg List.length hb
      simp at h1 h2
      omega
    | cons y b =>
      have hlen : A.length = pa.length + (a.length + 1) := by rw [ha]; simp
      have h1 : A[((pa.length : Nat) : Int).toNat]? = some x := by rw [ha]; exact get_mid pa x a
      have h2 : B[((pa.length : Nat) : Int).toNat]? = some y := by rw [hp, hb]; exact get_mid pb y b
      have w1 : IntKind.wrap .i64 ((pa.length : Int) + 1) = (pa.length : Int) + 1 := wrapI (by omega) (by omega)
      have nx := er_lab (g12 A B hA hB hl hs a b (pa ++ [x]) (pb ++ [y]) ((pa.length : Int) + 1) (by rw [ha]; simp) (by rw [hb]; simp) (by simp [hp]) (by simp))
      obtain ⟨k, g, v, l, rfl, hv⟩ := rw1_ex (List.all_eq_true.1 hA x (by rw [ha]; simp))
      obtain ⟨k', g', v', l', rfl, hv'⟩ := rw1_ex (List.all_eq_true.1 hB y (by rw [hb]; simp))
      have hR : rowsS (D.agg [.str k, .bool g, vD v, .bool l] :: a) (D.agg [.str k', .bool g', vD v', .bool l'] :: b) = (((k == k') && ((g == g') && ((l == l') && sameVD (vD v) (vD v')))) && rowsS a b) := rfl
      rw [hR]
      refine Goes.er (er_of (fun n => w12_4a _ A B _) ?_)
      rw [w1]
      refine er_t (decide_eq_true (by omega)) ?_
      refine er_idx (by omega) h1 (er_agg (er_get rfl (er_s (er_idx (by omega) h2 (er_agg (er_get rfl (er_s ?_)))))))
      refine er_if (fun hk => ?_) (fun hk => ?_)
      · rw [show (k == k') = false by simpa using hk]; exact er_some
      · rw [show (k == k') = true by simpa using hk, Bool.true_and]
        refine er_idx (by omega) h1 (er_agg (er_get rfl (er_b (er_idx (by omega) h2 (er_agg (er_get rfl (er_b ?_)))))))
        refine er_if (fun hg => ?_) (fun hg => ?_)
        · rw [show (g == g') = false by simpa using hg]; exact er_some
        · rw [show (g == g') = true by simpa using hg, Bool.true_and]
          refine er_idx (by omega) h1 (er_agg (er_get rfl (er_b (er_idx (by omega) h2 (er_agg (er_get rfl (er_b ?_)))))))
          refine er_if (fun hq => ?_) (fun hq => ?_)
          · rw [show (l == l') = false by simpa using hq]; exact er_some
          · rw [show (l == l') = true by simpa using hq, Bool.true_and]
            refine er_idx (by omega) h1 (er_agg (er_get rfl ?_))
            refine er_agg (er_lc (er_u (er_lc (er_b (er_lc (er_i (er_lc (er_u (er_lc (er_agg (er_lc (er_i (er_lc (er_agg (er_lc (er_i (er_lc (er_i (er_lc (er_b (er_ln (er_lc (er_sl (er_ln ?_))))))))))))))))))))))))
            refine er_idx (by omega) h2 (er_agg (er_get rfl ?_))
            refine er_agg (er_lc (er_u (er_lc (er_b (er_lc (er_i (er_lc (er_u (er_lc (er_agg (er_lc (er_i (er_lc (er_agg (er_lc (er_i (er_lc (er_i (er_lc (er_b (er_ln (er_lc (er_sl (er_ln ?_))))))))))))))))))))))))
            refine er_t (by rw [show vC (D.agg [D.int .u64 v.id, D.bool v.mr, D.int .i64 v.sz, D.int .u64 v.bl, D.agg v.dg, D.int .i64 v.cr, D.agg [D.int .i64 v.md, D.int .i64 v.un, D.bool v.ho], D.slice v.c v.tg]) = true from hv, show vC (D.agg [D.int .u64 v'.id, D.bool v'.mr, D.int .i64 v'.sz, D.int .u64 v'.bl, D.agg v'.dg, D.int .i64 v'.cr, D.agg [D.int .i64 v'.md, D.int .i64 v'.un, D.bool v'.ho], D.slice v'.c v'.tg]) = true from hv']; rfl) ?_
            refine er_if (fun hs => ?_) (fun hs => ?_)
            · have hs : (!sameVD (vD v) (vD v')) = true := hs
              rw [show sameVD (vD v) (vD v') = false by simpa using hs]; exact er_some
            · have hs : (!sameVD (vD v) (vD v')) = false := hs
              rw [show sameVD (vD v) (vD v') = true by simpa using hs, Bool.true_and]; exact nx
theorem c12' (a b : List D) (h : (rwC a && rwC b) = true) : RetX (Γ mx) 12 [.sl 54 .any a, .sl 54 .any b] [] (.b (rowsS a b)) [] := by
  unfold rwC at h
  simp only [Bool.and_eq_true, decide_eq_true_eq] at h
  obtain ⟨⟨h1, h2⟩, h3, h4⟩ := h
  by_cases hl : a.length = b.length
  · obtain ⟨n, hn⟩ := g12 (mx := mx) a b h2 h4 hl h1 a b [] [] 0 rfl rfl rfl rfl
    refine ret_goes (Γ := Γ mx) hP hZ W12_ok (by kernel_rfl) ⟨n, ?_⟩
    rw [w12, show ((a.length : Int) != (b.length : Int)) = false by rw [hl]; simp, cond_false]
    exact hn
  · refine ret_goes (Γ := Γ mx) hP hZ W12_ok (by kernel_rfl) ⟨0, ?_⟩
    rw [w12, show ((a.length : Int) != (b.length : Int)) = true by simp; omega, cond_true, rowsS_lenD hl]
/-! ### the first bucket -/
theorem W8_ok : CallsOK (Γ mx) (W8 mx) := specs_ok (.cons (spD1_ok c18') .nil)
theorem c8' (s : D) (h : stC s = true) : RetX (Γ mx) 8 [.d 24 s] [] (.tuple [.d 32 (firD mx s), .b (firB mx s)]) [] := by
  obtain ⟨m, n, b, c, l, rfl, hl⟩ := stC_ex h
  refine ret_goes (Γ := Γ mx) hP hZ W8_ok (by kernel_rfl) ⟨0, ?_⟩
  rw [w8, h, cond_true]
  unfold firD firB
  cases hs : sndB mx (D.agg [D.int .i64 m, D.int .u64 n, D.int .u64 b, D.slice c l]) with
  | false => rfl
  | true =>
    cases l with
    | nil => rfl
    | cons y r =>
      obtain ⟨nm, md, dy, c1, rs, c2, gs, c3, os, c4, us, rfl, _⟩ := bkC_ex (List.all_eq_true.1 hl y (by simp))
      rw [show ((((D.agg [D.str nm, D.agg [D.int .i64 md, D.int .i64 dy], D.slice c1 rs, D.slice c2 gs, D.slice c3 os, D.slice c4 us] :: r).length : Nat) : Int) == 0) = false by simp; omega]
      rfl
end Go.Proofs.Ytapaenfafjmljaa.V

/- Lists: what the machine over values makes of functions (13,): equations, written by program. -/
namespace Go.Proofs.Ytapaenfafjmljaa.V
open Go
set_option maxRecDepth 100000
set_option linter.unusedVariables false
set_option linter.unusedSimpArgs false
variable {mx : Int}
def W13 : Handle := runS [⟨19, dat (sp2 (fun _ _ => true) fun a b => .b (hpB a b))⟩, ⟨20, dat spRow⟩, ⟨22, xAdd⟩]
theorem w13 (lab : Lab) (bn : List UInt8) (bm : Int) (bd : Int) (brc : Cp) (brs : List D) (bgc : Cp) (bgs : List D) (boc : Cp) (bos : List D) (buc : Cp) (bus : List D) (p : List UInt8) (pb : List UInt8) (pk : List UInt8) (pi : Int) (n : Int) : evF (Γ mx) W13 lab 13 [.d 32 (D.agg [D.str bn, D.agg [D.int .i64 bm, D.int .i64 bd], D.slice brc brs, D.slice bgc bgs, D.slice boc bos, D.slice buc bus]), .s p, .d 43 (D.agg [D.str pb, D.str pk, D.int .u64 pi]), .i .i64 n] [] =
  bif decide (n < 1) then (some (.tuple [.snil, .b false, .i .i64 1], [])) else (bif decide (n > 100) then (some (.tuple [.snil, .b false, .i .i64 1], [])) else (lab (todoAt (Γ mx) 13 5) ⟨[(1, .s p), (6, .ptr 0 [] 43), (11, .ptr 1 [] 69), (26, .sl 59 boc bos), (27, .i .i64 ((bos.length : Int))), (28, .i .i64 0)], [some (.box 43 (.d 43 (D.agg [D.str pb, D.str pk, D.int .u64 pi]))), some (.box 69 (.d 69 (D.agg [D.slice .nl [], D.int .i64 n, D.bool false])))]⟩)) := by kernel_rfl
theorem w13_5a (lab : Lab) (s1 : List UInt8) (c2 : Cp) (l3 : List D) (n4 : Int) (n5 : Int) (s6 : List UInt8) (s7 : List UInt8) (n8 : Int) (n9 : Int) (b10 : Bool) : evL (Γ mx) W13 lab 13 5 ⟨[(1, .s s1), (6, .ptr 0 [] 43), (11, .ptr 1 [] 69), (26, .sl 59 c2 l3), (27, .i .i64 n4), (28, .i .i64 n5)], [some (.box 43 (.d 43 (D.agg [D.str s6, D.str s7, D.int .u64 n8]))), some (.box 69 (.d 69 (D.agg [D.slice .nl [], D.int .i64 n9, D.bool b10])))]⟩ =
  bif decide (n5 < n4) then (idx l3 n5 fun y11 => dAgg y11 fun y12 => lCons y12 fun a13 r14 => dStr a13 fun s15 => lCons r14 fun a16 r17 => dSlice a16 fun c18 l19 => lNil r17 (bif !(hpB s15 s1) then (lab (todoAt (Γ mx) 13 5) ⟨[(1, .s s1), (6, .ptr 0 [] 43), (11, .ptr 1 [] 69), (26, .sl 59 c2 l3), (27, .i .i64 n4), (28, .i .i64 (IntKind.wrap .i64 (n5 + 1)))], [some (.box 43 (.d 43 (D.agg [D.str s6, D.str s7, D.int .u64 n8]))), some (.box 69 (.d 69 (D.agg [D.slice .nl [], D.int .i64 n9, D.bool b10])))]⟩) else (bif lessB s15 s7 then (lab (todoAt (Γ mx) 13 5) ⟨[(1, .s s1), (6, .ptr 0 [] 43), (11, .ptr 1 [] 69), (26, .sl 59 c2 l3), (27, .i .i64 n4), (28, .i .i64 (IntKind.wrap .i64 (n5 + 1)))], [some (.box 43 (.d 43 (D.agg [D.str s6, D.str s7, D.int .u64 n8]))), some (.box 69 (.d 69 (D.agg [D.slice .nl [], D.int .i64 n9, D.bool b10])))]⟩) else (lab (todoAt (Γ mx) 13 9) ⟨[(1, .s s1), (6, .ptr 0 [] 43), (11, .ptr 1 [] 69), (13, .ptr 2 [] 59), (14, .i .i64 (IntKind.wrap .i64 (((l19.length : Int)) - 1))), (26, .sl 59 c2 l3), (27, .i .i64 n4), (28, .i .i64 n5)], [some (.box 43 (.d 43 (D.agg [D.str s6, D.str s7, D.int .u64 n8]))), some (.box 69 (.d 69 (D.agg [D.slice .nl [], D.int .i64 n9, D.bool b10]))), some (.box 59 (.d 59 (D.agg [D.str s15, D.slice c18 l19])))]⟩)))) else (some (.tuple [.sl 54 .nl [], .b b10, .i .i64 0], [])) := by kernel_rfl
theorem w13_9a (lab : Lab) (s1 : List UInt8) (n2 : Int) (c3 : Cp) (l4 : List D) (n5 : Int) (n6 : Int) (s7 : List UInt8) (s8 : List UInt8) (n9 : Int) (n10 : Int) (b11 : Bool) (s12 : List UInt8) (c13 : Cp) (l14 : List D) : evL (Γ mx) W13 lab 13 9 ⟨[(1, .s s1), (6, .ptr 0 [] 43), (11, .ptr 1 [] 69), (13, .ptr 2 [] 59), (14, .i .i64 n2), (26, .sl 59 c3 l4), (27, .i .i64 n5), (28, .i .i64 n6)], [some (.box 43 (.d 43 (D.agg [D.str s7, D.str s8, D.int .u64 n9]))), some (.box 69 (.d 69 (D.agg [D.slice .nl [], D.int .i64 n10, D.bool b11]))), some (.box 59 (.d 59 (D.agg [D.str s12, D.slice c13 l14])))]⟩ =
  bif decide (n2 ≥ 0) then (idx l14 n2 fun y15 => dAgg y15 fun y16 => lCons y16 fun a17 r18 => dInt .u64 a17 fun n19 => lCons r18 fun a20 r21 => dBool a20 fun b22 => lCons r21 fun a23 r24 => dInt .i64 a23 fun n25 => lCons r24 fun a26 r27 => dInt .u64 a26 fun n28 => lCons r27 fun a29 r30 => dAgg a29 fun y31 => lCons r30 fun a32 r33 => dInt .i64 a32 fun n34 => lCons r33 fun a35 r36 => dAgg a35 fun y37 => lCons y37 fun a38 r39 => dInt .i64 a38 fun n40 => lCons r39 fun a41 r42 => dInt .i64 a41 fun n43 => lCons r42 fun a44 r45 => dBool a44 fun b46 => lNil r45 (lCons r36 fun a47 r48 => dSlice a47 fun c49 l50 => lNil r48 (bif !(s8 == ([] : List UInt8)) then (bif s12 == s8 then (bif decide (n19 ≥ n9) then (lab (todoAt (Γ mx) 13 9) ⟨[(1, .s s1), (6, .ptr 0 [] 43), (11, .ptr 1 [] 69), (13, .ptr 2 [] 59), (14, .i .i64 (IntKind.wrap .i64 (n2 - 1))), (26, .sl 59 c3 l4), (27, .i .i64 n5), (28, .i .i64 n6)], [some (.box 43 (.d 43 (D.agg [D.str s7, D.str s8, D.int .u64 n9]))), some (.box 69 (.d 69 (D.agg [D.slice .nl [], D.int .i64 n10, D.bool b11]))), some (.box 59 (.d 59 (D.agg [D.str s12, D.slice c13 l14])))]⟩) else (bif vC (D.agg [D.int .u64 n19, D.bool b22, D.int .i64 n25, D.int .u64 n28, D.agg y31, D.int .i64 n34, D.agg [D.int .i64 n40, D.int .i64 n43, D.bool b46], D.slice c49 l50]) then (bif !((0 : Int) == n10) then (lab (todoAt (Γ mx) 13 9) ⟨[(1, .s s1), (6, .ptr 0 [] 43), (11, .ptr 1 [] 69), (13, .ptr 3 [] 59), (14, .i .i64 (IntKind.wrap .i64 (n2 - 1))), (26, .sl 59 c3 l4), (27, .i .i64 n5), (28, .i .i64 n6)], [some (.box 43 (.d 43 (D.agg [D.str s7, D.str s8, D.int .u64 n9]))), some (.box 69 (.agg 69 [.ref 54 2, .i .i64 n10, .b b11])), some (.arr 54 ([D.agg [D.str s12, D.bool false, D.agg [D.int .u64 n19, D.bool b22, D.int .i64 n25, D.int .u64 n28, D.agg y31, D.int .i64 n34, D.agg [D.int .i64 n40, D.int .i64 n43, D.bool b46], D.slice .cl l50], D.bool (n2 == (IntKind.wrap .i64 (((l14.length : Int)) - 1)))]]) false), some (.box 59 (.d 59 (D.agg [D.str s12, D.slice c13 l14])))]⟩) else none) else none)) else (bif vC (D.agg [D.int .u64 n19, D.bool b22, D.int .i64 n25, D.int .u64 n28, D.agg y31, D.int .i64 n34, D.agg [D.int .i64 n40, D.int .i64 n43, D.bool b46], D.slice c49 l50]) then (bif !((0 : Int) == n10) then (lab (todoAt (Γ mx) 13 9) ⟨[(1, .s s1), (6, .ptr 0 [] 43), (11, .ptr 1 [] 69), (13, .ptr 3 [] 59), (14, .i .i64 (IntKind.wrap .i64 (n2 - 1))), (26, .sl 59 c3 l4), (27, .i .i64 n5), (28, .i .i64 n6)], [some (.box 43 (.d 43 (D.agg [D.str s7, D.str s8, D.int .u64 n9]))), some (.box 69 (.agg 69 [.ref 54 2, .i .i64 n10, .b b11])), some (.arr 54 ([D.agg [D.str s12, D.bool false, D.agg [D.int .u64 n19, D.bool b22, D.int .i64 n25, D.int .u64 n28, D.agg y31, D.int .i64 n34, D.agg [D.int .i64 n40, D.int .i64 n43, D.bool b46], D.slice .cl l50], D.bool (n2 == (IntKind.wrap .i64 (((l14.length : Int)) - 1)))]]) false), some (.box 59 (.d 59 (D.agg [D.str s12, D.slice c13 l14])))]⟩) else none) else none)) else (bif vC (D.agg [D.int .u64 n19, D.bool b22, D.int .i64 n25, D.int .u64 n28, D.agg y31, D.int .i64 n34, D.agg [D.int .i64 n40, D.int .i64 n43, D.bool b46], D.slice c49 l50]) then (bif !((0 : Int) == n10) then (lab (todoAt (Γ mx) 13 9) ⟨[(1, .s s1), (6, .ptr 0 [] 43), (11, .ptr 1 [] 69), (13, .ptr 3 [] 59), (14, .i .i64 (IntKind.wrap .i64 (n2 - 1))), (26, .sl 59 c3 l4), (27, .i .i64 n5), (28, .i .i64 n6)], [some (.box 43 (.d 43 (D.agg [D.str s7, D.str s8, D.int .u64 n9]))), some (.box 69 (.agg 69 [.ref 54 2, .i .i64 n10, .b b11])), some (.arr 54 ([D.agg [D.str s12, D.bool false, D.agg [D.int .u64 n19, D.bool b22, D.int .i64 n25, D.int .u64 n28, D.agg y31, D.int .i64 n34, D.agg [D.int .i64 n40, D.int .i64 n43, D.bool b46], D.slice .cl l50], D.bool (n2 == (IntKind.wrap .i64 (((l14.length : Int)) - 1)))]]) false), some (.box 59 (.d 59 (D.agg [D.str s12, D.slice c13 l14])))]⟩) else none) else none)))) else (lab (todoAt (Γ mx) 13 5) ⟨[(1, .s s1), (6, .ptr 0 [] 43), (11, .ptr 1 [] 69), (26, .sl 59 c3 l4), (27, .i .i64 n5), (28, .i .i64 (IntKind.wrap .i64 (n6 + 1)))], [some (.box 43 (.d 43 (D.agg [D.str s7, D.str s8, D.int .u64 n9]))), some (.box 69 (.d 69 (D.agg [D.slice .nl [], D.int .i64 n10, D.bool b11])))]⟩) := by kernel_rfl
theorem w13_9b (lab : Lab) (s1 : List UInt8) (n2 : Int) (c3 : Cp) (l4 : List D) (n5 : Int) (n6 : Int) (s7 : List UInt8) (s8 : List UInt8) (n9 : Int) (n10 : Int) (b11 : Bool) (l12 : List D) (s13 : List UInt8) (c14 : Cp) (l15 : List D) : evL (Γ mx) W13 lab 13 9 ⟨[(1, .s s1), (6, .ptr 0 [] 43), (11, .ptr 1 [] 69), (13, .ptr 3 [] 59), (14, .i .i64 n2), (26, .sl 59 c3 l4), (27, .i .i64 n5), (28, .i .i64 n6)], [some (.box 43 (.d 43 (D.agg [D.str s7, D.str s8, D.int .u64 n9]))), some (.box 69 (.agg 69 [.ref 54 2, .i .i64 n10, .b b11])), some (.arr 54 l12 false), some (.box 59 (.d 59 (D.agg [D.str s13, D.slice c14 l15])))]⟩ =
  bif decide (n2 ≥ 0) then (idx l15 n2 fun y16 => dAgg y16 fun y17 => lCons y17 fun a18 r19 => dInt .u64 a18 fun n20 => lCons r19 fun a21 r22 => dBool a21 fun b23 => lCons r22 fun a24 r25 => dInt .i64 a24 fun n26 => lCons r25 fun a27 r28 => dInt .u64 a27 fun n29 => lCons r28 fun a30 r31 => dAgg a30 fun y32 => lCons r31 fun a33 r34 => dInt .i64 a33 fun n35 => lCons r34 fun a36 r37 => dAgg a36 fun y38 => lCons y38 fun a39 r40 => dInt .i64 a39 fun n41 => lCons r40 fun a42 r43 => dInt .i64 a42 fun n44 => lCons r43 fun a45 r46 => dBool a45 fun b47 => lNil r46 (lCons r37 fun a48 r49 => dSlice a48 fun c50 l51 => lNil r49 (bif !(s8 == ([] : List UInt8)) then (bif s13 == s8 then (bif decide (n20 ≥ n9) then (lab (todoAt (Γ mx) 13 9) ⟨[(1, .s s1), (6, .ptr 0 [] 43), (11, .ptr 1 [] 69), (13, .ptr 3 [] 59), (14, .i .i64 (IntKind.wrap .i64 (n2 - 1))), (26, .sl 59 c3 l4), (27, .i .i64 n5), (28, .i .i64 n6)], [some (.box 43 (.d 43 (D.agg [D.str s7, D.str s8, D.int .u64 n9]))), some (.box 69 (.agg 69 [.ref 54 2, .i .i64 n10, .b b11])), some (.arr 54 l12 false), some (.box 59 (.d 59 (D.agg [D.str s13, D.slice c14 l15])))]⟩) else (bif vC (D.agg [D.int .u64 n20, D.bool b23, D.int .i64 n26, D.int .u64 n29, D.agg y32, D.int .i64 n35, D.agg [D.int .i64 n41, D.int .i64 n44, D.bool b47], D.slice c50 l51]) then (bif roomB (List.length l12 + 1) 152 then (bif !(!((List.length l12 : Int) == n10)) then (some (.tuple [.sl 54 .any (bif ((List.length l12 : Int) == n10) then l12 else l12 ++ [D.agg [D.str s13, D.bool false, D.agg [D.int .u64 n20, D.bool b23, D.int .i64 n26, D.int .u64 n29, D.agg y32, D.int .i64 n35, D.agg [D.int .i64 n41, D.int .i64 n44, D.bool b47], D.slice .cl l51], D.bool (n2 == (IntKind.wrap .i64 (((l15.length : Int)) - 1)))]]), .b (b11 || ((List.length l12 : Int) == n10)), .i .i64 0], [])) else (lab (todoAt (Γ mx) 13 9) ⟨[(1, .s s1), (6, .ptr 0 [] 43), (11, .ptr 1 [] 69), (13, .ptr 3 [] 59), (14, .i .i64 (IntKind.wrap .i64 (n2 - 1))), (26, .sl 59 c3 l4), (27, .i .i64 n5), (28, .i .i64 n6)], [some (.box 43 (.d 43 (D.agg [D.str s7, D.str s8, D.int .u64 n9]))), some (.box 69 (.agg 69 [.ref 54 2, .i .i64 n10, .b (b11 || ((List.length l12 : Int) == n10))])), some (.arr 54 (bif ((List.length l12 : Int) == n10) then l12 else l12 ++ [D.agg [D.str s13, D.bool false, D.agg [D.int .u64 n20, D.bool b23, D.int .i64 n26, D.int .u64 n29, D.agg y32, D.int .i64 n35, D.agg [D.int .i64 n41, D.int .i64 n44, D.bool b47], D.slice .cl l51], D.bool (n2 == (IntKind.wrap .i64 (((l15.length : Int)) - 1)))]]) false), some (.box 59 (.d 59 (D.agg [D.str s13, D.slice c14 l15])))]⟩)) else none) else none)) else (bif vC (D.agg [D.int .u64 n20, D.bool b23, D.int .i64 n26, D.int .u64 n29, D.agg y32, D.int .i64 n35, D.agg [D.int .i64 n41, D.int .i64 n44, D.bool b47], D.slice c50 l51]) then (bif roomB (List.length l12 + 1) 152 then (bif !(!((List.length l12 : Int) == n10)) then (some (.tuple [.sl 54 .any (bif ((List.length l12 : Int) == n10) then l12 else l12 ++ [D.agg [D.str s13, D.bool false, D.agg [D.int .u64 n20, D.bool b23, D.int .i64 n26, D.int .u64 n29, D.agg y32, D.int .i64 n35, D.agg [D.int .i64 n41, D.int .i64 n44, D.bool b47], D.slice .cl l51], D.bool (n2 == (IntKind.wrap .i64 (((l15.length : Int)) - 1)))]]), .b (b11 || ((List.length l12 : Int) == n10)), .i .i64 0], [])) else (lab (todoAt (Γ mx) 13 9) ⟨[(1, .s s1), (6, .ptr 0 [] 43), (11, .ptr 1 [] 69), (13, .ptr 3 [] 59), (14, .i .i64 (IntKind.wrap .i64 (n2 - 1))), (26, .sl 59 c3 l4), (27, .i .i64 n5), (28, .i .i64 n6)], [some (.box 43 (.d 43 (D.agg [D.str s7, D.str s8, D.int .u64 n9]))), some (.box 69 (.agg 69 [.ref 54 2, .i .i64 n10, .b (b11 || ((List.length l12 : Int) == n10))])), some (.arr 54 (bif ((List.length l12 : Int) == n10) then l12 else l12 ++ [D.agg [D.str s13, D.bool false, D.agg [D.int .u64 n20, D.bool b23, D.int .i64 n26, D.int .u64 n29, D.agg y32, D.int .i64 n35, D.agg [D.int .i64 n41, D.int .i64 n44, D.bool b47], D.slice .cl l51], D.bool (n2 == (IntKind.wrap .i64 (((l15.length : Int)) - 1)))]]) false), some (.box 59 (.d 59 (D.agg [D.str s13, D.slice c14 l15])))]⟩)) else none) else none)) else (bif vC (D.agg [D.int .u64 n20, D.bool b23, D.int .i64 n26, D.int .u64 n29, D.agg y32, D.int .i64 n35, D.agg [D.int .i64 n41, D.int .i64 n44, D.bool b47], D.slice c50 l51]) then (bif roomB (List.length l12 + 1) 152 then (bif !(!((List.length l12 : Int) == n10)) then (some (.tuple [.sl 54 .any (bif ((List.length l12 : Int) == n10) then l12 else l12 ++ [D.agg [D.str s13, D.bool false, D.agg [D.int .u64 n20, D.bool b23, D.int .i64 n26, D.int .u64 n29, D.agg y32, D.int .i64 n35, D.agg [D.int .i64 n41, D.int .i64 n44, D.bool b47], D.slice .cl l51], D.bool (n2 == (IntKind.wrap .i64 (((l15.length : Int)) - 1)))]]), .b (b11 || ((List.length l12 : Int) == n10)), .i .i64 0], [])) else (lab (todoAt (Γ mx) 13 9) ⟨[(1, .s s1), (6, .ptr 0 [] 43), (11, .ptr 1 [] 69), (13, .ptr 3 [] 59), (14, .i .i64 (IntKind.wrap .i64 (n2 - 1))), (26, .sl 59 c3 l4), (27, .i .i64 n5), (28, .i .i64 n6)], [some (.box 43 (.d 43 (D.agg [D.str s7, D.str s8, D.int .u64 n9]))), some (.box 69 (.agg 69 [.ref 54 2, .i .i64 n10, .b (b11 || ((List.length l12 : Int) == n10))])), some (.arr 54 (bif ((List.length l12 : Int) == n10) then l12 else l12 ++ [D.agg [D.str s13, D.bool false, D.agg [D.int .u64 n20, D.bool b23, D.int .i64 n26, D.int .u64 n29, D.agg y32, D.int .i64 n35, D.agg [D.int .i64 n41, D.int .i64 n44, D.bool b47], D.slice .cl l51], D.bool (n2 == (IntKind.wrap .i64 (((l15.length : Int)) - 1)))]]) false), some (.box 59 (.d 59 (D.agg [D.str s13, D.slice c14 l15])))]⟩)) else none) else none)))) else (lab (todoAt (Γ mx) 13 5) ⟨[(1, .s s1), (6, .ptr 0 [] 43), (11, .ptr 1 [] 69), (26, .sl 59 c3 l4), (27, .i .i64 n5), (28, .i .i64 (IntKind.wrap .i64 (n6 + 1)))], [some (.box 43 (.d 43 (D.agg [D.str s7, D.str s8, D.int .u64 n9]))), some (.box 69 (.agg 69 [.ref 54 2, .i .i64 n10, .b b11])), some (.arr 54 l12 false)]⟩) := by kernel_rfl
theorem w13_5b (lab : Lab) (s1 : List UInt8) (c2 : Cp) (l3 : List D) (n4 : Int) (n5 : Int) (s6 : List UInt8) (s7 : List UInt8) (n8 : Int) (n9 : Int) (b10 : Bool) (l11 : List D) : evL (Γ mx) W13 lab 13 5 ⟨[(1, .s s1), (6, .ptr 0 [] 43), (11, .ptr 1 [] 69), (26, .sl 59 c2 l3), (27, .i .i64 n4), (28, .i .i64 n5)], [some (.box 43 (.d 43 (D.agg [D.str s6, D.str s7, D.int .u64 n8]))), some (.box 69 (.agg 69 [.ref 54 2, .i .i64 n9, .b b10])), some (.arr 54 l11 false)]⟩ =
  bif decide (n5 < n4) then (idx l3 n5 fun y12 => dAgg y12 fun y13 => lCons y13 fun a14 r15 => dStr a14 fun s16 => lCons r15 fun a17 r18 => dSlice a17 fun c19 l20 => lNil r18 (bif !(hpB s16 s1) then (lab (todoAt (Γ mx) 13 5) ⟨[(1, .s s1), (6, .ptr 0 [] 43), (11, .ptr 1 [] 69), (26, .sl 59 c2 l3), (27, .i .i64 n4), (28, .i .i64 (IntKind.wrap .i64 (n5 + 1)))], [some (.box 43 (.d 43 (D.agg [D.str s6, D.str s7, D.int .u64 n8]))), some (.box 69 (.agg 69 [.ref 54 2, .i .i64 n9, .b b10])), some (.arr 54 l11 false)]⟩) else (bif lessB s16 s7 then (lab (todoAt (Γ mx) 13 5) ⟨[(1, .s s1), (6, .ptr 0 [] 43), (11, .ptr 1 [] 69), (26, .sl 59 c2 l3), (27, .i .i64 n4), (28, .i .i64 (IntKind.wrap .i64 (n5 + 1)))], [some (.box 43 (.d 43 (D.agg [D.str s6, D.str s7, D.int .u64 n8]))), some (.box 69 (.agg 69 [.ref 54 2, .i .i64 n9, .b b10])), some (.arr 54 l11 false)]⟩) else (lab (todoAt (Γ mx) 13 9) ⟨[(1, .s s1), (6, .ptr 0 [] 43), (11, .ptr 1 [] 69), (13, .ptr 3 [] 59), (14, .i .i64 (IntKind.wrap .i64 (((l20.length : Int)) - 1))), (26, .sl 59 c2 l3), (27, .i .i64 n4), (28, .i .i64 n5)], [some (.box 43 (.d 43 (D.agg [D.str s6, D.str s7, D.int .u64 n8]))), some (.box 69 (.agg 69 [.ref 54 2, .i .i64 n9, .b b10])), some (.arr 54 l11 false), some (.box 59 (.d 59 (D.agg [D.str s16, D.slice c19 l20])))]⟩)))) else (some (.tuple [.sl 54 .any l11, .b b10, .i .i64 0], [])) := by kernel_rfl
end Go.Proofs.Ytapaenfafjmljaa.V

/- Lists: list.Versions: its contract. -/
namespace Go.Proofs.Ytapaenfafjmljaa.V
open Go
set_option maxRecDepth 100000
set_option linter.unusedVariables false
set_option linter.unusedSimpArgs false
variable {mx : Int}
/-! ### an object's rows, from some version down -/
def rowsAt (k : Tx) (vl : List Ver) : Nat → List (Vr Ver)
  | 0 => []
  | m + 1 => match vl[m]? with
    | some v => (k, v, decide (m + 1 = vl.length)) :: rowsAt k vl m
    | none => rowsAt k vl m
theorem rowsAt_eq (k : Tx) (vl : List Ver) : ∀ m, m ≤ vl.length → rowsAt k vl m = if m = vl.length then revRows k vl else (vl.take m).reverse.map fun x => (k, x, false)
  | 0, h => by
    by_cases h0 : 0 = vl.length
    · rw [if_pos h0, List.length_eq_zero_iff.1 h0.symm]; rfl
    · rw [if_neg h0]; rfl
  | m + 1, h => by
    have hm : m < vl.length := by omega
    have ih := rowsAt_eq k vl m (by omega)
    rw [if_neg (by omega)] at ih
    rw [rowsAt, List.getElem?_eq_getElem hm]
    simp only
    rw [ih]
    have ht : (vl.take (m + 1)).reverse = vl[m] :: (vl.take m).reverse := by
      rw [← List.take_append_getElem hm, List.reverse_append]; rfl
    by_cases hl : m + 1 = vl.length
    · rw [if_pos hl, decide_eq_true hl]
      unfold revRows
      have : vl.reverse = vl[m] :: (vl.take m).reverse := by rw [← ht, hl, List.take_length]
      rw [this]
    · rw [if_neg hl, decide_eq_false hl, ht]; rfl
theorem rowsAt_all (k : Tx) (vl : List Ver) : rowsAt k vl vl.length = revRows k vl := by rw [rowsAt_eq k vl _ (Nat.le_refl _), if_pos rfl]
/-! ### states -/
def v5S (p sb sk : Tx) (si : Int) (c : Cp) (os : List D) (n i : Int) : List D → St
  | [] => ⟨[(1, .s p), (6, .ptr 0 [] 43), (11, .ptr 1 [] 69), (26, .sl 59 c os), (27, .i .i64 ((os.length : Int))), (28, .i .i64 i)], [some (.box 43 (.d 43 (D.agg [D.str sb, D.str sk, D.int .u64 si]))), some (.box 69 (.d 69 (D.agg [D.slice .nl [], D.int .i64 n, D.bool false])))]⟩
  | x :: l => ⟨[(1, .s p), (6, .ptr 0 [] 43), (11, .ptr 1 [] 69), (26, .sl 59 c os), (27, .i .i64 ((os.length : Int))), (28, .i .i64 i)], [some (.box 43 (.d 43 (D.agg [D.str sb, D.str sk, D.int .u64 si]))), some (.box 69 (.agg 69 [.ref 54 2, .i .i64 n, .b false])), some (.arr 54 (x :: l) false)]⟩
def v9S (p sb sk : Tx) (si : Int) (c : Cp) (os : List D) (n i : Int) (ok : Tx) (oc : Cp) (vs : List D) (j : Int) : List D → St
  | [] => ⟨[(1, .s p), (6, .ptr 0 [] 43), (11, .ptr 1 [] 69), (13, .ptr 2 [] 59), (14, .i .i64 j), (26, .sl 59 c os), (27, .i .i64 ((os.length : Int))), (28, .i .i64 i)], [some (.box 43 (.d 43 (D.agg [D.str sb, D.str sk, D.int .u64 si]))), some (.box 69 (.d 69 (D.agg [D.slice .nl [], D.int .i64 n, D.bool false]))), some (.box 59 (.d 59 (D.agg [D.str ok, D.slice oc vs])))]⟩
  | x :: l => ⟨[(1, .s p), (6, .ptr 0 [] 43), (11, .ptr 1 [] 69), (13, .ptr 3 [] 59), (14, .i .i64 j), (26, .sl 59 c os), (27, .i .i64 ((os.length : Int))), (28, .i .i64 i)], [some (.box 43 (.d 43 (D.agg [D.str sb, D.str sk, D.int .u64 si]))), some (.box 69 (.agg 69 [.ref 54 2, .i .i64 n, .b false])), some (.arr 54 (x :: l) false), some (.box 59 (.d 59 (D.agg [D.str ok, D.slice oc vs])))]⟩
def resV : List D × Bool → AV × Objs
  | ([], m) => (.tuple [.sl 54 .nl [], .b m, .i .i64 0], [])
  | (x :: l, m) => (.tuple [.sl 54 .any (x :: l), .b m, .i .i64 0], [])
theorem room152 {n : Nat} (h : n ≤ 10000000) : roomB n 152 = true := by
  unfold roomB
  simp only [Bool.and_eq_true, decide_eq_true_eq]
  exact ⟨rfl, by omega⟩
theorem skip_eq {ok sk : Tx} (h : lessB ok sk = false) (si id : Int) : (!(sk == []) && (ok == sk && decide (id ≥ si))) = !keepR sk si ok id := by
  rw [← keep_eq]
  unfold keepP
  rw [h]
  simp
/-- rows are added: by what they are -/
theorem addAll_full {α : Type} {n : Nat} {L R : List α} {r : α} (h : L.length = n) : addAll n L (r :: R) = (L, true) := by rw [addAll, if_pos h]
theorem addAll_room {α : Type} {n : Nat} {L R : List α} {r : α} (h : L.length ≠ n) : addAll n L (r :: R) = addAll n (L ++ [r]) R := by rw [addAll, if_neg h]
theorem W13_ok : CallsOK (Γ mx) W13 := specs_ok (.cons (sp2_ok c95) (.cons spRow_ok (.cons xAdd_ok .nil)))
theorem g13_9 {p sb sk : Tx} {si : Int} {c : Cp} {os : List D} {n i : Int} {ok : Tx} {oc : Cp} {vl : List Ver} {R : List D} (hn : 1 ≤ n) (hn2 : n ≤ 100) (hi : 0 ≤ i) (hi2 : i ≤ 8388608) (hvl : vl.length ≤ 8388608) (hva : (vl.map vD).all vC = true) (hlt : lessB ok sk = false)
    (hc : ∀ L : List D, L.length ≤ n.toNat → Goes (Γ mx) W13 13 5 (v5S p sb sk si c os n (i + 1) L) (resV (addAll n.toNat L R))) :
    ∀ (m : Nat) (j : Int) (L : List D), m ≤ vl.length → j = (m : Int) - 1 → L.length ≤ n.toNat →
    Goes (Γ mx) W13 13 9 (v9S p sb sk si c os n i ok oc (vl.map vD) j L) (resV (addAll n.toNat L (((rowsAt ok vl m).filter fun r => keepR sk si r.1 r.2.1.id).map rowVP ++ R)))
  | 0, j, L, hm, hj, hL => by
    subst hj
    have w1 : IntKind.wrap .i64 (i + 1) = i + 1 := wrapI (by omega) (by omega)
    cases L with
    | nil =>
      refine Goes.er (er_of (fun k => w13_9a _ p _ c os _ i sb sk si n false ok oc (vl.map vD)) ?_)
      rw [w1]
      exact er_f (decide_eq_false (by omega)) (er_lab (hc [] hL))
    | cons x l =>
      refine Goes.er (er_of (fun k => w13_9b _ p _ c os _ i sb sk si n false (x :: l) ok oc (vl.map vD)) ?_)
      rw [w1]
      exact er_f (decide_eq_false (by omega)) (er_lab (hc (x :: l) hL))
  | m + 1, j, L, hm, hj, hL => by
    have hj' : j = (m : Int) := by omega
    subst hj'
    have hlt' : m < vl.length := by omega
    have hg : (vl.map vD)[((m : Nat) : Int).toNat]? = some (vD vl[m]) := by rw [Int.toNat_natCast, List.getElem?_map, List.getElem?_eq_getElem hlt']; rfl
    have hvC : vC (vD vl[m]) = true := List.all_eq_true.1 hva _ (List.mem_map.2 ⟨vl[m], List.getElem_mem hlt', rfl⟩)
    have w1 : IntKind.wrap .i64 ((m : Int) - 1) = (m : Int) - 1 := wrapI (by omega) (by omega)
    have w2 : IntKind.wrap .i64 (((vl.map vD).length : Int) - 1) = (vl.length : Int) - 1 := by rw [List.length_map]; exact wrapI (by omega) (by omega)
    have hfl : ((m : Int) == (vl.length : Int) - 1) = decide (m + 1 = vl.length) := by
      by_cases h : m + 1 = vl.length
      · rw [decide_eq_true h]; simp; omega
      · rw [decide_eq_false h]; simp; omega
    have hra : rowsAt ok vl (m + 1) = (ok, vl[m], decide (m + 1 = vl.length)) :: rowsAt ok vl m := by rw [rowsAt, List.getElem?_eq_getElem hlt']
    have nx := fun L' hL' => g13_9 (oc := oc) hn hn2 hi hi2 hvl hva hlt hc m ((m : Int) - 1) L' (by omega) rfl hL'
    have hsk := skip_eq hlt si vl[m].id
    cases L with
    | nil =>
      refine Goes.er (er_of (fun k => w13_9a _ p _ c os _ i sb sk si n false ok oc (vl.map vD)) ?_)
      rw [w1, w2, hfl]
      refine er_t (decide_eq_true (by omega)) (er_idx (by omega) hg ?_)
      refine er_agg (er_lc (er_u (er_lc (er_b (er_lc (er_i (er_lc (er_u (er_lc (er_agg (er_lc (er_i (er_lc (er_agg (er_lc (er_i (er_lc (er_i (er_lc (er_b (er_ln (er_lc (er_sl (er_ln ?_))))))))))))))))))))))))
      cases hk : keepR sk si ok vl[m].id with
      | false =>
        rw [hk] at hsk
        refine er3s hsk (er_lab ?_)
        rw [hra, List.filter_cons_of_neg (by rw [hk]; simp)]
        exact nx [] hL
      | true =>
        rw [hk] at hsk
        refine er3t hsk (er_t hvC (er_t (by simp; omega) (er_lab ?_)))
        rw [hra, List.filter_cons_of_pos (p := fun r : Vr Ver => keepR sk si r.1 r.2.1.id) (a := (ok, vl[m], decide (m + 1 = vl.length))) hk, List.map_cons, List.cons_append, addAll_room (by simp; omega)]
        exact nx [rowVP (ok, vl[m], decide (m + 1 = vl.length))] (by simp; omega)
    | cons x l =>
      refine Goes.er (er_of (fun k => w13_9b _ p _ c os _ i sb sk si n false (x :: l) ok oc (vl.map vD)) ?_)
      rw [w1, w2, hfl]
      refine er_t (decide_eq_true (by omega)) (er_idx (by omega) hg ?_)
      refine er_agg (er_lc (er_u (er_lc (er_b (er_lc (er_i (er_lc (er_u (er_lc (er_agg (er_lc (er_i (er_lc (er_agg (er_lc (er_i (er_lc (er_i (er_lc (er_b (er_ln (er_lc (er_sl (er_ln ?_))))))))))))))))))))))))
      cases hk : keepR sk si ok vl[m].id with
      | false =>
        rw [hk] at hsk
        refine er3s hsk (er_lab ?_)
        rw [hra, List.filter_cons_of_neg (by rw [hk]; simp)]
        exact nx (x :: l) hL
      | true =>
        rw [hk] at hsk
        rw [hra, List.filter_cons_of_pos (p := fun r : Vr Ver => keepR sk si r.1 r.2.1.id) (a := (ok, vl[m], decide (m + 1 = vl.length))) hk, List.map_cons, List.cons_append]
        by_cases hfull : (x :: l).length = n.toNat
        · have hb : (((x :: l).length : Int) == n) = true := by simp only [beq_iff_eq]; omega
          rw [addAll_full hfull, hb]
          exact er3t hsk (er_t hvC (er_t (room152 (by omega)) (er_t rfl (er_is rfl))))
        · have hb : (((x :: l).length : Int) == n) = false := by rw [beq_eq_false_iff_ne]; omega
          rw [addAll_room hfull, hb]
          exact er3t hsk (er_t hvC (er_t (room152 (by omega)) (er_f rfl (er_lab (nx (x :: l ++ [rowVP (ok, vl[m], decide (m + 1 = vl.length))]) (by simp at hL hfull ⊢; omega))))))
/-- the rows that objects have behind a spot -/
def objRows (p sk : Tx) (si : Int) (o : D) : List D := (bif hpB (oKey o) p then (revRows (oKey o) (vsOf (oVs o))).filter (fun r => keepR sk si r.1 r.2.1.id) else []).map rowVP
theorem keep_less {ok sk : Tx} (h : lessB ok sk = true) (si id : Int) : keepR sk si ok id = false := by
  rw [← keep_eq]; unfold keepP; rw [h]; rfl
theorem filter_none {α : Type} {p : α → Bool} {l : List α} (h : ∀ x ∈ l, p x = false) : l.filter p = [] := List.filter_eq_nil_iff.2 fun x hx => by rw [h x hx]; simp
theorem g13_5 {p sb sk : Tx} {si : Int} {c : Cp} {os : List D} {n : Int} (hn : 1 ≤ n) (hn2 : n ≤ 100) (hos : os.all oC = true) (hol : os.length ≤ 8388608) :
    ∀ (rest pre L : List D) (i : Int), os = pre ++ rest → i = (pre.length : Int) → L.length ≤ n.toNat →
    Goes (Γ mx) W13 13 5 (v5S p sb sk si c os n i L) (resV (addAll n.toNat L (rest.flatMap (objRows p sk si))))
  | [], pre, L, i, he, hi, hL => by
    subst hi
    cases L with
    | nil =>
      refine Goes.er (er_of (fun k => w13_5a _ p c os _ _ sb sk si n false) (er_f (decide_eq_false ?_) (er_is rfl)))
      rw [he]; simp
    | cons x l =>
      refine Goes.er (er_of (fun k => w13_5b _ p c os _ _ sb sk si n false (x :: l)) (er_f (decide_eq_false ?_) (er_is rfl)))
      rw [he]; simp
  | y :: r, pre, L, i, he, hi, hL => by
    subst hi
    have hlen : os.length = pre.length + (r.length + 1) := by rw [he]; simp
    have hg : os[((pre.length : Nat) : Int).toNat]? = some y := by rw [he]; exact get_mid pre y r
    have w1 : IntKind.wrap .i64 ((pre.length : Int) + 1) = (pre.length : Int) + 1 := wrapI (by omega) (by omega)
    have nx := fun L' hL' => g13_5 (p := p) (sb := sb) (sk := sk) (si := si) (c := c) hn hn2 hos hol r (pre ++ [y]) L' ((pre.length : Int) + 1) (by rw [he]; simp) (by simp) hL'
    obtain ⟨yk, yc, vs, hye, _, hvs⟩ := oC_ex (List.all_eq_true.1 hos y (by rw [he]; simp))
    obtain ⟨hvl, hva⟩ := vsC_eq hvs
    obtain ⟨vl, rfl, hvo⟩ := vs_ex hva
    subst hye
    rw [List.length_map] at hvl
    have w2 : IntKind.wrap .i64 (((vl.map vD).length : Int) - 1) = (vl.length : Int) - 1 := by rw [List.length_map]; exact wrapI (by omega) (by omega)
    have hor : objRows p sk si (D.agg [D.str yk, D.slice yc (vl.map vD)]) = (bif hpB yk p then (revRows yk vl).filter (fun r => keepR sk si r.1 r.2.1.id) else []).map rowVP := by
      unfold objRows
      rw [show oVs (D.agg [D.str yk, D.slice yc (vl.map vD)]) = vl.map vD from rfl, hvo]; rfl
    have inner : lessB yk sk = false → hpB yk p = true → Goes (Γ mx) W13 13 9 (v9S p sb sk si c os n (pre.length : Int) yk yc (vl.map vD) ((vl.length : Int) - 1) L) (resV (addAll n.toNat L ((D.agg [D.str yk, D.slice yc (vl.map vD)] :: r).flatMap (objRows p sk si)))) := by
      intro hlt hp
      rw [List.flatMap_cons, hor, hp, cond_true, ← rowsAt_all]
      exact g13_9 hn hn2 (by omega) (by omega) hvl hva hlt (fun L' hL' => nx L' hL') vl.length _ L (Nat.le_refl _) rfl hL
    have away : (bif hpB yk p then (revRows yk vl).filter (fun r => keepR sk si r.1 r.2.1.id) else []) = [] → (D.agg [D.str yk, D.slice yc (vl.map vD)] :: r).flatMap (objRows p sk si) = r.flatMap (objRows p sk si) := by
      intro h
      rw [List.flatMap_cons, hor, h]; rfl
    have away2 : lessB yk sk = true → (revRows yk vl).filter (fun r => keepR sk si r.1 r.2.1.id) = [] := fun h => filter_none fun x hx => by rw [(mem_rev hx).1]; exact keep_less h si _
    cases L with
    | nil =>
      refine Goes.er (er_of (fun k => w13_5a _ p c os _ _ sb sk si n false) ?_)
      rw [w1]
      refine er_t (decide_eq_true (by omega)) (er_idx (by omega) hg (er_agg (er_lc (er_s (er_lc (er_sl (er_ln ?_)))))))
      rw [w2]
      refine er_if (fun hp => ?_) (fun hp => ?_)
      · rw [away (by rw [show hpB yk p = false by simpa using hp]; rfl)]; exact er_lab (nx [] hL)
      · have hp : hpB yk p = true := by simpa using hp
        refine er_if (fun hl => ?_) (fun hl => er_lab (inner hl hp))
        rw [away (by rw [hp, cond_true, away2 hl])]; exact er_lab (nx [] hL)
    | cons x l =>
      refine Goes.er (er_of (fun k => w13_5b _ p c os _ _ sb sk si n false (x :: l)) ?_)
      rw [w1]
      refine er_t (decide_eq_true (by omega)) (er_idx (by omega) hg (er_agg (er_lc (er_s (er_lc (er_sl (er_ln ?_)))))))
      rw [w2]
      refine er_if (fun hp => ?_) (fun hp => ?_)
      · rw [away (by rw [show hpB yk p = false by simpa using hp]; rfl)]; exact er_lab (nx (x :: l) hL)
      · have hp : hpB yk p = true := by simpa using hp
        refine er_if (fun hl => ?_) (fun hl => er_lab (inner hl hp))
        rw [away (by rw [hp, cond_true, away2 hl])]; exact er_lab (nx (x :: l) hL)
end Go.Proofs.Ytapaenfafjmljaa.V

/- Lists: what the machine over values makes of functions (14,): equations, written by program. -/
namespace Go.Proofs.Ytapaenfafjmljaa.V
open Go
set_option maxRecDepth 100000
set_option linter.unusedVariables false
set_option linter.unusedSimpArgs false
variable {mx : Int}
def W14 : Handle := runS [⟨23, dat (sp2 (fun _ _ => true) fun a b => .b (hpB a b))⟩, ⟨25, dat spPg⟩]
theorem w14 (lab : Lab) (bn : List UInt8) (bm : Int) (bd : Int) (brc : Cp) (brs : List D) (bgc : Cp) (bgs : List D) (boc : Cp) (bos : List D) (buc : Cp) (bus : List D) (p : List UInt8) (pb : List UInt8) (pk : List UInt8) (pi : Int) (n : Int) : evF (Γ mx) W14 lab 14 [.d 32 (D.agg [D.str bn, D.agg [D.int .i64 bm, D.int .i64 bd], D.slice brc brs, D.slice bgc bgs, D.slice boc bos, D.slice buc bus]), .s p, .d 43 (D.agg [D.str pb, D.str pk, D.int .u64 pi]), .i .i64 n] [] =
  bif decide (n < 1) then (some (.tuple [.snil, .b false, .i .i64 1], [])) else (bif decide (n > 100) then (some (.tuple [.snil, .b false, .i .i64 1], [])) else (lab (todoAt (Γ mx) 14 5) ⟨[(1, .s p), (3, .i .i64 n), (4, .ptr 0 [] 32), (6, .ptr 1 [] 43), (11, .ref 54 2), (12, .i .i64 0)], [some (.box 32 (.d 32 (D.agg [D.str bn, D.agg [D.int .i64 bm, D.int .i64 bd], D.slice brc brs, D.slice bgc bgs, D.slice boc bos, D.slice buc bus]))), some (.box 43 (.d 43 (D.agg [D.str pb, D.str pk, D.int .u64 pi]))), some (.arr 54 [] false)]⟩)) := by kernel_rfl
theorem w14_5a (lab : Lab) (s1 : List UInt8) (n2 : Int) (n3 : Int) (s4 : List UInt8) (n5 : Int) (n6 : Int) (c7 : Cp) (l8 : List D) (c9 : Cp) (l10 : List D) (c11 : Cp) (l12 : List D) (c13 : Cp) (l14 : List D) (s15 : List UInt8) (s16 : List UInt8) (n17 : Int) (l18 : List D) : evL (Γ mx) W14 lab 14 5 ⟨[(1, .s s1), (3, .i .i64 n2), (4, .ptr 0 [] 32), (6, .ptr 1 [] 43), (11, .ref 54 2), (12, .i .i64 n3)], [some (.box 32 (.d 32 (D.agg [D.str s4, D.agg [D.int .i64 n5, D.int .i64 n6], D.slice c7 l8, D.slice c9 l10, D.slice c11 l12, D.slice c13 l14]))), some (.box 43 (.d 43 (D.agg [D.str s15, D.str s16, D.int .u64 n17]))), some (.arr 54 l18 false)]⟩ =
  bif decide (n3 < ((l12.length : Int))) then (idx l12 n3 fun y19 => dAgg y19 fun y20 => lCons y20 fun a21 r22 => dStr a21 fun s23 => lCons r22 fun a24 r25 => dSlice a24 fun c26 l27 => lNil r25 (bif !(hpB s23 s1) then (lab (todoAt (Γ mx) 14 5) ⟨[(1, .s s1), (3, .i .i64 n2), (4, .ptr 0 [] 32), (6, .ptr 1 [] 43), (11, .ref 54 2), (12, .i .i64 (IntKind.wrap .i64 (n3 + 1)))], [some (.box 32 (.d 32 (D.agg [D.str s4, D.agg [D.int .i64 n5, D.int .i64 n6], D.slice c7 l8, D.slice c9 l10, D.slice c11 l12, D.slice c13 l14]))), some (.box 43 (.d 43 (D.agg [D.str s15, D.str s16, D.int .u64 n17]))), some (.arr 54 l18 false)]⟩) else (lab (todoAt (Γ mx) 14 10) ⟨[(1, .s s1), (3, .i .i64 n2), (4, .ptr 0 [] 32), (6, .ptr 1 [] 43), (11, .ref 54 2), (12, .i .i64 n3), (13, .ptr 3 [] 59), (14, .i .i64 (IntKind.wrap .i64 (((l27.length : Int)) - 1)))], [some (.box 32 (.d 32 (D.agg [D.str s4, D.agg [D.int .i64 n5, D.int .i64 n6], D.slice c7 l8, D.slice c9 l10, D.slice c11 l12, D.slice c13 l14]))), some (.box 43 (.d 43 (D.agg [D.str s15, D.str s16, D.int .u64 n17]))), some (.arr 54 l18 false), some (.box 59 (.d 59 (D.agg [D.str s23, D.slice c26 l27])))]⟩))) else (bif pgC n2 then (some (.tuple [.sl 54 .any ((List.take (Int.toNat n2) l18)), .b (decide (n2 < (List.length l18 : Int))), .i .i64 0], [])) else none) := by kernel_rfl
theorem w14_10a (lab : Lab) (s1 : List UInt8) (n2 : Int) (n3 : Int) (n4 : Int) (s5 : List UInt8) (n6 : Int) (n7 : Int) (c8 : Cp) (l9 : List D) (c10 : Cp) (l11 : List D) (c12 : Cp) (l13 : List D) (c14 : Cp) (l15 : List D) (s16 : List UInt8) (s17 : List UInt8) (n18 : Int) (l19 : List D) (s20 : List UInt8) (c21 : Cp) (l22 : List D) : evL (Γ mx) W14 lab 14 10 ⟨[(1, .s s1), (3, .i .i64 n2), (4, .ptr 0 [] 32), (6, .ptr 1 [] 43), (11, .ref 54 2), (12, .i .i64 n3), (13, .ptr 3 [] 59), (14, .i .i64 n4)], [some (.box 32 (.d 32 (D.agg [D.str s5, D.agg [D.int .i64 n6, D.int .i64 n7], D.slice c8 l9, D.slice c10 l11, D.slice c12 l13, D.slice c14 l15]))), some (.box 43 (.d 43 (D.agg [D.str s16, D.str s17, D.int .u64 n18]))), some (.arr 54 l19 false), some (.box 59 (.d 59 (D.agg [D.str s20, D.slice c21 l22])))]⟩ =
  bif decide (n4 ≥ 0) then (idx l22 n4 fun y23 => dAgg y23 fun y24 => lCons y24 fun a25 r26 => dInt .u64 a25 fun n27 => lCons r26 fun a28 r29 => dBool a28 fun b30 => lCons r29 fun a31 r32 => dInt .i64 a31 fun n33 => lCons r32 fun a34 r35 => dInt .u64 a34 fun n36 => lCons r35 fun a37 r38 => dAgg a37 fun y39 => lCons r38 fun a40 r41 => dInt .i64 a40 fun n42 => lCons r41 fun a43 r44 => dAgg a43 fun y45 => lCons y45 fun a46 r47 => dInt .i64 a46 fun n48 => lCons r47 fun a49 r50 => dInt .i64 a49 fun n51 => lCons r50 fun a52 r53 => dBool a52 fun b54 => lNil r53 (lCons r44 fun a55 r56 => dSlice a55 fun c57 l58 => lNil r56 (bif s17 == ([] : List UInt8) then (bif roomB (l19.length + 1) 152 then (lab (todoAt (Γ mx) 14 10) ⟨[(1, .s s1), (3, .i .i64 n2), (4, .ptr 0 [] 32), (6, .ptr 1 [] 43), (11, .ref 54 2), (12, .i .i64 n3), (13, .ptr 3 [] 59), (14, .i .i64 (IntKind.wrap .i64 (n4 - 1)))], [some (.box 32 (.d 32 (D.agg [D.str s5, D.agg [D.int .i64 n6, D.int .i64 n7], D.slice c8 l9, D.slice c10 l11, D.slice c12 l13, D.slice c14 l15]))), some (.box 43 (.d 43 (D.agg [D.str s16, D.str s17, D.int .u64 n18]))), some (.arr 54 (l19 ++ [D.agg [D.str s20, D.bool false, D.agg [D.int .u64 n27, D.bool b30, D.int .i64 n33, D.int .u64 n36, D.agg y39, D.int .i64 n42, D.agg [D.int .i64 n48, D.int .i64 n51, D.bool b54], D.slice c57 l58], D.bool (n4 == (IntKind.wrap .i64 (((l22.length : Int)) - 1)))]]) false), some (.box 59 (.d 59 (D.agg [D.str s20, D.slice c21 l22])))]⟩) else none) else (bif !(lessB s20 s17 || s20 == s17) then (bif roomB (l19.length + 1) 152 then (lab (todoAt (Γ mx) 14 10) ⟨[(1, .s s1), (3, .i .i64 n2), (4, .ptr 0 [] 32), (6, .ptr 1 [] 43), (11, .ref 54 2), (12, .i .i64 n3), (13, .ptr 3 [] 59), (14, .i .i64 (IntKind.wrap .i64 (n4 - 1)))], [some (.box 32 (.d 32 (D.agg [D.str s5, D.agg [D.int .i64 n6, D.int .i64 n7], D.slice c8 l9, D.slice c10 l11, D.slice c12 l13, D.slice c14 l15]))), some (.box 43 (.d 43 (D.agg [D.str s16, D.str s17, D.int .u64 n18]))), some (.arr 54 (l19 ++ [D.agg [D.str s20, D.bool false, D.agg [D.int .u64 n27, D.bool b30, D.int .i64 n33, D.int .u64 n36, D.agg y39, D.int .i64 n42, D.agg [D.int .i64 n48, D.int .i64 n51, D.bool b54], D.slice c57 l58], D.bool (n4 == (IntKind.wrap .i64 (((l22.length : Int)) - 1)))]]) false), some (.box 59 (.d 59 (D.agg [D.str s20, D.slice c21 l22])))]⟩) else none) else (bif s20 == s17 then (bif decide (n27 < n18) then (bif roomB (l19.length + 1) 152 then (lab (todoAt (Γ mx) 14 10) ⟨[(1, .s s1), (3, .i .i64 n2), (4, .ptr 0 [] 32), (6, .ptr 1 [] 43), (11, .ref 54 2), (12, .i .i64 n3), (13, .ptr 3 [] 59), (14, .i .i64 (IntKind.wrap .i64 (n4 - 1)))], [some (.box 32 (.d 32 (D.agg [D.str s5, D.agg [D.int .i64 n6, D.int .i64 n7], D.slice c8 l9, D.slice c10 l11, D.slice c12 l13, D.slice c14 l15]))), some (.box 43 (.d 43 (D.agg [D.str s16, D.str s17, D.int .u64 n18]))), some (.arr 54 (l19 ++ [D.agg [D.str s20, D.bool false, D.agg [D.int .u64 n27, D.bool b30, D.int .i64 n33, D.int .u64 n36, D.agg y39, D.int .i64 n42, D.agg [D.int .i64 n48, D.int .i64 n51, D.bool b54], D.slice c57 l58], D.bool (n4 == (IntKind.wrap .i64 (((l22.length : Int)) - 1)))]]) false), some (.box 59 (.d 59 (D.agg [D.str s20, D.slice c21 l22])))]⟩) else none) else (lab (todoAt (Γ mx) 14 10) ⟨[(1, .s s1), (3, .i .i64 n2), (4, .ptr 0 [] 32), (6, .ptr 1 [] 43), (11, .ref 54 2), (12, .i .i64 n3), (13, .ptr 3 [] 59), (14, .i .i64 (IntKind.wrap .i64 (n4 - 1)))], [some (.box 32 (.d 32 (D.agg [D.str s5, D.agg [D.int .i64 n6, D.int .i64 n7], D.slice c8 l9, D.slice c10 l11, D.slice c12 l13, D.slice c14 l15]))), some (.box 43 (.d 43 (D.agg [D.str s16, D.str s17, D.int .u64 n18]))), some (.arr 54 l19 false), some (.box 59 (.d 59 (D.agg [D.str s20, D.slice c21 l22])))]⟩)) else (lab (todoAt (Γ mx) 14 10) ⟨[(1, .s s1), (3, .i .i64 n2), (4, .ptr 0 [] 32), (6, .ptr 1 [] 43), (11, .ref 54 2), (12, .i .i64 n3), (13, .ptr 3 [] 59), (14, .i .i64 (IntKind.wrap .i64 (n4 - 1)))], [some (.box 32 (.d 32 (D.agg [D.str s5, D.agg [D.int .i64 n6, D.int .i64 n7], D.slice c8 l9, D.slice c10 l11, D.slice c12 l13, D.slice c14 l15]))), some (.box 43 (.d 43 (D.agg [D.str s16, D.str s17, D.int .u64 n18]))), some (.arr 54 l19 false), some (.box 59 (.d 59 (D.agg [D.str s20, D.slice c21 l22])))]⟩)))))) else (lab (todoAt (Γ mx) 14 5) ⟨[(1, .s s1), (3, .i .i64 n2), (4, .ptr 0 [] 32), (6, .ptr 1 [] 43), (11, .ref 54 2), (12, .i .i64 (IntKind.wrap .i64 (n3 + 1)))], [some (.box 32 (.d 32 (D.agg [D.str s5, D.agg [D.int .i64 n6, D.int .i64 n7], D.slice c8 l9, D.slice c10 l11, D.slice c12 l13, D.slice c14 l15]))), some (.box 43 (.d 43 (D.agg [D.str s16, D.str s17, D.int .u64 n18]))), some (.arr 54 l19 false)]⟩) := by kernel_rfl
end Go.Proofs.Ytapaenfafjmljaa.V

/- Lists: the document's Versions: its contract. -/
namespace Go.Proofs.Ytapaenfafjmljaa.V
open Go
set_option maxRecDepth 100000
set_option linter.unusedVariables false
set_option linter.unusedSimpArgs false
variable {mx : Int}
def resR (n : Int) (L : List D) : AV × Objs := (.tuple [.sl 54 .any ((List.take (Int.toNat n) L)), .b (decide (n < (List.length L : Int))), .i .i64 0], [])
theorem W14_ok : CallsOK (Γ mx) W14 := specs_ok (.cons (sp2_ok k36) (.cons spPg_ok .nil))
theorem keepR_def (sk ok : Tx) (si id : Int) : ((sk == []) || (!(lessB ok sk || ok == sk) || (ok == sk && decide (id < si)))) = keepR sk si ok id := by
  unfold keepR
  rw [le_less]
  simp
theorem g14_10 {p sb sk : Tx} {si : Int} {nm : Tx} {md dy : Int} {c1 c2 c3 c4 : Cp} {rs gs os us : List D} {n i : Int} {ok : Tx} {oc : Cp} {vl : List Ver} {R : List D} (B : Nat) (hB : B ≤ 1000000) (hi : 0 ≤ i) (hi2 : i ≤ 8388608) (hvl : vl.length ≤ 8388608)
    (hc : ∀ L : List D, L.length ≤ B → Goes (Γ mx) W14 14 5 ⟨[(1, .s p), (3, .i .i64 n), (4, .ptr 0 [] 32), (6, .ptr 1 [] 43), (11, .ref 54 2), (12, .i .i64 (i + 1))], [some (.box 32 (.d 32 (D.agg [D.str nm, D.agg [D.int .i64 md, D.int .i64 dy], D.slice c1 rs, D.slice c2 gs, D.slice c3 os, D.slice c4 us]))), some (.box 43 (.d 43 (D.agg [D.str sb, D.str sk, D.int .u64 si]))), some (.arr 54 L false)]⟩ (resR n (L ++ R))) :
    ∀ (m : Nat) (j : Int) (L : List D), m ≤ vl.length → j = (m : Int) - 1 → L.length + m ≤ B →
    Goes (Γ mx) W14 14 10 ⟨[(1, .s p), (3, .i .i64 n), (4, .ptr 0 [] 32), (6, .ptr 1 [] 43), (11, .ref 54 2), (12, .i .i64 i), (13, .ptr 3 [] 59), (14, .i .i64 j)], [some (.box 32 (.d 32 (D.agg [D.str nm, D.agg [D.int .i64 md, D.int .i64 dy], D.slice c1 rs, D.slice c2 gs, D.slice c3 os, D.slice c4 us]))), some (.box 43 (.d 43 (D.agg [D.str sb, D.str sk, D.int .u64 si]))), some (.arr 54 L false), some (.box 59 (.d 59 (D.agg [D.str ok, D.slice oc (vl.map vD)])))]⟩
      (resR n (L ++ (((rowsAt ok vl m).filter fun r => keepR sk si r.1 r.2.1.id).map rowVR ++ R)))
  | 0, j, L, hm, hj, hL => by
    subst hj
    have w1 : IntKind.wrap .i64 (i + 1) = i + 1 := wrapI (by omega) (by omega)
    refine Goes.er (er_of (fun k => w14_10a _ p n i _ nm md dy c1 rs c2 gs c3 os c4 us sb sk si L ok oc (vl.map vD)) ?_)
    rw [w1]
    exact er_f (decide_eq_false (by omega)) (er_lab (hc L (by omega)))
  | m + 1, j, L, hm, hj, hL => by
    have hj' : j = (m : Int) := by omega
    subst hj'
    have hlt' : m < vl.length := by omega
    have hg : (vl.map vD)[((m : Nat) : Int).toNat]? = some (vD vl[m]) := by rw [Int.toNat_natCast, List.getElem?_map, List.getElem?_eq_getElem hlt']; rfl
    have w1 : IntKind.wrap .i64 ((m : Int) - 1) = (m : Int) - 1 := wrapI (by omega) (by omega)
    have w2 : IntKind.wrap .i64 (((vl.map vD).length : Int) - 1) = (vl.length : Int) - 1 := by rw [List.length_map]; exact wrapI (by omega) (by omega)
    have hfl : ((m : Int) == (vl.length : Int) - 1) = decide (m + 1 = vl.length) := by
      by_cases h : m + 1 = vl.length
      · rw [decide_eq_true h]; simp; omega
      · rw [decide_eq_false h]; simp; omega
    have hra : rowsAt ok vl (m + 1) = (ok, vl[m], decide (m + 1 = vl.length)) :: rowsAt ok vl m := by rw [rowsAt, List.getElem?_eq_getElem hlt']
    have nx := fun L' hL' => g14_10 (oc := oc) (ok := ok) B hB hi hi2 hvl hc m ((m : Int) - 1) L' (by omega) rfl hL'
    have hsk := keepR_def sk ok si vl[m].id
    refine Goes.er (er_of (fun k => w14_10a _ p n i _ nm md dy c1 rs c2 gs c3 os c4 us sb sk si L ok oc (vl.map vD)) ?_)
    rw [w1, w2, hfl]
    refine er_t (decide_eq_true (by omega)) (er_idx (by omega) hg ?_)
    refine er_agg (er_lc (er_u (er_lc (er_b (er_lc (er_i (er_lc (er_u (er_lc (er_agg (er_lc (er_i (er_lc (er_agg (er_lc (er_i (er_lc (er_i (er_lc (er_b (er_ln (er_lc (er_sl (er_ln ?_))))))))))))))))))))))))
    cases hk : keepR sk si ok vl[m].id with
    | false =>
      rw [hk] at hsk
      refine er4s hsk (er_lab ?_)
      rw [hra, List.filter_cons_of_neg (by rw [hk]; simp)]
      exact nx L (by omega)
    | true =>
      rw [hk] at hsk
      refine er4t hsk (er_t (room152 (by omega)) (er_lab ?_))
      rw [hra, List.filter_cons_of_pos (p := fun r : Vr Ver => keepR sk si r.1 r.2.1.id) (a := (ok, vl[m], decide (m + 1 = vl.length))) hk, List.map_cons, List.cons_append]
      have e := nx (L ++ [rowVR (ok, vl[m], decide (m + 1 = vl.length))]) (by rw [List.length_append, List.length_singleton]; omega)
      rw [List.append_assoc, List.singleton_append] at e
      exact e
def objRowsR (p sk : Tx) (si : Int) (o : D) : List D := (bif hpB (oKey o) p then (revRows (oKey o) (vsOf (oVs o))).filter (fun r => keepR sk si r.1 r.2.1.id) else []).map rowVR
theorem g14_5 {p sb sk : Tx} {si : Int} {nm : Tx} {md dy : Int} {c1 c2 c3 c4 : Cp} {rs gs os us : List D} {n : Int} (hn : 1 ≤ n) (hos : os.all oC = true) (hol : os.length ≤ 8388608) :
    ∀ (rest pre L : List D) (i : Int), os = pre ++ rest → i = (pre.length : Int) → L.length + totV rest ≤ 1000000 →
    Goes (Γ mx) W14 14 5 ⟨[(1, .s p), (3, .i .i64 n), (4, .ptr 0 [] 32), (6, .ptr 1 [] 43), (11, .ref 54 2), (12, .i .i64 i)], [some (.box 32 (.d 32 (D.agg [D.str nm, D.agg [D.int .i64 md, D.int .i64 dy], D.slice c1 rs, D.slice c2 gs, D.slice c3 os, D.slice c4 us]))), some (.box 43 (.d 43 (D.agg [D.str sb, D.str sk, D.int .u64 si]))), some (.arr 54 L false)]⟩
      (resR n (L ++ rest.flatMap (objRowsR p sk si)))
  | [], pre, L, i, he, hi, hL => by
    subst hi
    refine Goes.er (er_of (fun k => w14_5a _ p n _ nm md dy c1 rs c2 gs c3 os c4 us sb sk si L) (er_f (decide_eq_false ?_) (er_t (decide_eq_true (show (0 : Int) ≤ n by omega)) (er_is ?_))))
    · rw [he]; simp
    · rw [List.flatMap_nil, List.append_nil]; rfl
  | y :: r, pre, L, i, he, hi, hL => by
    subst hi
    have hlen : os.length = pre.length + (r.length + 1) := by rw [he]; simp
    have hg : os[((pre.length : Nat) : Int).toNat]? = some y := by rw [he]; exact get_mid pre y r
    have w1 : IntKind.wrap .i64 ((pre.length : Int) + 1) = (pre.length : Int) + 1 := wrapI (by omega) (by omega)
    have nx := fun L' hL' => g14_5 (p := p) (sb := sb) (sk := sk) (si := si) (nm := nm) (md := md) (dy := dy) (c1 := c1) (c2 := c2) (c3 := c3) (c4 := c4) (rs := rs) (gs := gs) (us := us) hn hos hol r (pre ++ [y]) L' ((pre.length : Int) + 1) (by rw [he]; simp) (by simp) hL'
    obtain ⟨yk, yc, vs, hye, _, hvs⟩ := oC_ex (List.all_eq_true.1 hos y (by rw [he]; simp))
    obtain ⟨hvl, hva⟩ := vsC_eq hvs
    obtain ⟨vl, rfl, hvo⟩ := vs_ex hva
    subst hye
    have htot : totV (D.agg [D.str yk, D.slice yc (vl.map vD)] :: r) = vl.length + totV r := by
      show (vl.map vD).length + totV r = _
      rw [List.length_map]
    rw [htot] at hL
    rw [List.length_map] at hvl
    have w2 : IntKind.wrap .i64 (((vl.map vD).length : Int) - 1) = (vl.length : Int) - 1 := by rw [List.length_map]; exact wrapI (by omega) (by omega)
    have hor : objRowsR p sk si (D.agg [D.str yk, D.slice yc (vl.map vD)]) = (bif hpB yk p then (revRows yk vl).filter (fun r => keepR sk si r.1 r.2.1.id) else []).map rowVR := by
      unfold objRowsR
      rw [show oVs (D.agg [D.str yk, D.slice yc (vl.map vD)]) = vl.map vD from rfl, hvo]; rfl
    refine Goes.er (er_of (fun k => w14_5a _ p n _ nm md dy c1 rs c2 gs c3 os c4 us sb sk si L) ?_)
    rw [w1]
    refine er_t (decide_eq_true (by omega)) (er_idx (by omega) hg (er_agg (er_lc (er_s (er_lc (er_sl (er_ln ?_)))))))
    rw [w2, List.flatMap_cons, hor]
    refine er_if (fun hp => ?_) (fun hp => ?_)
    · rw [show hpB yk p = false by simpa using hp]; exact er_lab (nx L (by omega))
    · rw [show hpB yk p = true by simpa using hp, cond_true, ← rowsAt_all]
      exact er_lab (g14_10 (L.length + vl.length) (by omega) (by omega) (by omega) hvl (fun L' hL' => nx L' (by omega)) vl.length _ L (Nat.le_refl _) rfl (Nat.le_refl _))
end Go.Proofs.Ytapaenfafjmljaa.V

/- Lists: what the machine over values makes of functions (4,): equations, written by program. -/
namespace Go.Proofs.Ytapaenfafjmljaa.V
open Go
set_option maxRecDepth 100000
set_option linter.unusedVariables false
set_option linter.unusedSimpArgs false
variable {mx : Int}
noncomputable def W4 (mx : Int) : Handle := runS [⟨9, dat (sp0 true (.b true))⟩, ⟨8, dat (spD1 24 stC fun s => .tuple [.d 32 (firD mx s), .b (firB mx s)])⟩, ⟨13, dat (spVy rowVP)⟩, ⟨14, dat (spVy rowVR)⟩, ⟨12, dat (spLL 54 54 (fun a b => rwC a && rwC b) fun a b => .b (rowsS a b))⟩]
theorem w4 (lab : Lab) (sm : Int) (sn : Int) (sb : Int) (sc : Cp) (sl : List D) (p : List UInt8) (pb : List UInt8) (pk : List UInt8) (pi : Int) (n : Int) : evF (Γ mx) (W4 mx) lab 4 [.d 24 (D.agg [D.int .i64 sm, D.int .u64 sn, D.int .u64 sb, D.slice sc sl]), .s p, .d 43 (D.agg [D.str pb, D.str pk, D.int .u64 pi]), .i .i64 n] [] =
  bif stC (D.agg [D.int .i64 sm, D.int .u64 sn, D.int .u64 sb, D.slice sc sl]) then (dAgg ((firD mx (D.agg [D.int .i64 sm, D.int .u64 sn, D.int .u64 sb, D.slice sc sl]))) fun y1 => lCons y1 fun a2 r3 => dStr a2 fun s4 => lCons r3 fun a5 r6 => dAgg a5 fun y7 => lCons y7 fun a8 r9 => dInt .i64 a8 fun n10 => lCons r9 fun a11 r12 => dInt .i64 a11 fun n13 => lNil r12 (lCons r6 fun a14 r15 => dSlice a14 fun c16 l17 => lCons r15 fun a18 r19 => dSlice a18 fun c20 l21 => lCons r19 fun a22 r23 => dSlice a22 fun c24 l25 => lCons r23 fun a26 r27 => dSlice a26 fun c28 l29 => lNil r27 (bif !(firB mx (D.agg [D.int .i64 sm, D.int .u64 sn, D.int .u64 sb, D.slice sc sl])) then (some (.b true, [])) else (bif bkS (D.agg [D.str s4, D.agg [D.int .i64 n10, D.int .i64 n13], D.slice c16 l17, D.slice c20 l21, D.slice c24 l25, D.slice c28 l29]) && isSp (D.agg [D.str pb, D.str pk, D.int .u64 pi]) then (bif bkS (D.agg [D.str s4, D.agg [D.int .i64 n10, D.int .i64 n13], D.slice c16 l17, D.slice c20 l21, D.slice c24 l25, D.slice c28 l29]) && isSp (D.agg [D.str pb, D.str pk, D.int .u64 pi]) then (bif (pgE n) == (pgE n) then (bif (vyM (D.agg [D.str s4, D.agg [D.int .i64 n10, D.int .i64 n13], D.slice c16 l17, D.slice c20 l21, D.slice c24 l25, D.slice c28 l29]) p (D.agg [D.str pb, D.str pk, D.int .u64 pi]) n) == (vyM (D.agg [D.str s4, D.agg [D.int .i64 n10, D.int .i64 n13], D.slice c16 l17, D.slice c20 l21, D.slice c24 l25, D.slice c28 l29]) p (D.agg [D.str pb, D.str pk, D.int .u64 pi]) n) then (bif rwC (((vyL rowVP (D.agg [D.str s4, D.agg [D.int .i64 n10, D.int .i64 n13], D.slice c16 l17, D.slice c20 l21, D.slice c24 l25, D.slice c28 l29]) p (D.agg [D.str pb, D.str pk, D.int .u64 pi]) n))) && rwC (((vyL rowVR (D.agg [D.str s4, D.agg [D.int .i64 n10, D.int .i64 n13], D.slice c16 l17, D.slice c20 l21, D.slice c24 l25, D.slice c28 l29]) p (D.agg [D.str pb, D.str pk, D.int .u64 pi]) n))) then (some (.b (rowsS (((vyL rowVP (D.agg [D.str s4, D.agg [D.int .i64 n10, D.int .i64 n13], D.slice c16 l17, D.slice c20 l21, D.slice c24 l25, D.slice c28 l29]) p (D.agg [D.str pb, D.str pk, D.int .u64 pi]) n))) (((vyL rowVR (D.agg [D.str s4, D.agg [D.int .i64 n10, D.int .i64 n13], D.slice c16 l17, D.slice c20 l21, D.slice c24 l25, D.slice c28 l29]) p (D.agg [D.str pb, D.str pk, D.int .u64 pi]) n)))), [])) else none) else (some (.b false, []))) else (some (.b false, []))) else none) else none)))) else none := by kernel_rfl
end Go.Proofs.Ytapaenfafjmljaa.V

/- Lists: Versions twice: contracts; the law ListVersions. -/
namespace Go.Proofs.Ytapaenfafjmljaa.V
open Go
set_option maxRecDepth 100000
set_option linter.unusedVariables false
set_option linter.unusedSimpArgs false
variable {mx : Int}
theorem rep_nil {P : Program} {w : World} {S : Addr → Prop} {σ : Loc} {ob : Objs} {e : TypeId} {r : List AV} {v : Value} (h : RepA P w S σ ob (.tuple (.snil :: r)) v) : RepA P w S σ ob (.tuple (.sl e .any [] :: r)) v := by
  simp only [RepA, RepAs] at h ⊢
  obtain ⟨vs, rfl, v0, vs', rfl, rfl, h2⟩ := h
  exact ⟨_, rfl, _, _, rfl, ⟨none, 0, rfl, ⟨Nat.le_refl _, fun _ => rfl⟩, .inl trivial⟩, h2⟩
theorem rep_nl {P : Program} {w : World} {S : Addr → Prop} {σ : Loc} {ob : Objs} {e : TypeId} {r : List AV} {v : Value} (h : RepA P w S σ ob (.tuple (.sl e .nl [] :: r)) v) : RepA P w S σ ob (.tuple (.sl e .any [] :: r)) v := by
  simp only [RepA, RepAs] at h ⊢
  obtain ⟨vs, rfl, v0, vs', rfl, ⟨a, cap, rfl, h1, _⟩, h2⟩ := h
  obtain ⟨rfl, _, rfl⟩ := h1
  exact ⟨_, rfl, _, _, rfl, ⟨none, 0, rfl, ⟨Nat.le_refl _, fun _ => rfl⟩, .inl trivial⟩, h2⟩
theorem ret_nil {f : FuncId} {args : List AV} {e : TypeId} {r : List AV} (h : RetX (Γ mx) f args [] (.tuple (.snil :: r)) []) : RetX (Γ mx) f args [] (.tuple (.sl e .any [] :: r)) [] := h.to fun _ _ _ _ q => rep_nil q
theorem ret_resV {f : FuncId} {args : List AV} {x : List D × Bool} (h : RetX (Γ mx) f args [] (resV x).1 []) : RetX (Γ mx) f args [] (.tuple [.sl 54 .any x.1, .b x.2, .i .i64 0]) [] := by
  obtain ⟨l, m⟩ := x
  cases l with
  | nil => exact h.to fun _ _ _ _ q => rep_nl q
  | cons y r => exact h
theorem resV_ob (x : List D × Bool) : resV x = ((resV x).1, []) := by
  obtain ⟨l, m⟩ := x
  cases l <;> rfl
theorem pgE_lo {n : Int} (h : n < 1) : pgE n = 1 := by unfold pgE; rw [decide_eq_true h]; rfl
theorem pgE_hi {n : Int} (h : n > 100) : pgE n = 1 := by unfold pgE; rw [decide_eq_false (show ¬ n < 1 by omega), decide_eq_true h]; rfl
theorem pgE_ok {n : Int} (h1 : 1 ≤ n) (h2 : n ≤ 100) : pgE n = 0 := by unfold pgE; rw [decide_eq_false (show ¬ n < 1 by omega), decide_eq_false (show ¬ n > 100 by omega)]; rfl
theorem flat_rows (f : Vr Ver → D) (p sk : Tx) (si : Int) (os : List D) : os.flatMap (fun o => (bif hpB (oKey o) p then (revRows (oKey o) (vsOf (oVs o))).filter (fun r => keepR sk si r.1 r.2.1.id) else []).map f) = (rowsV (fun k => hpB k p) Ver.id (os.map oP) sk si).map f := by
  unfold rowsV
  rw [List.map_flatMap, List.flatMap_map]
  rfl
theorem isSp_ex {d : D} (h : isSp d = true) : ∃ a b i, d = .agg [.str a, .str b, .int .u64 i] := by
  unfold isSp at h
  split at h
  · exact ⟨_, _, _, rfl⟩
  · exact absurd h (by simp)
theorem bkS_eq {b : D} (h : bkS b = true) : bkC b = true ∧ totV (bObj b) ≤ 4096 := by
  unfold bkS at h
  simpa using h
theorem c13' (b : D) (p : Tx) (s : D) (n : Int) (hb : bkS b = true) (hs : isSp s = true) : RetX (Γ mx) 13 [.d 32 b, .s p, .d 43 s, .i .i64 n] [] (.tuple [.sl 54 .any (vyL rowVP b p s n), .b (vyM b p s n), .i .i64 (pgE n)]) [] := by
  obtain ⟨hb, ht⟩ := bkS_eq hb
  obtain ⟨nm, md, dy, c1, rs, c2, gs, c3, os, c4, us, rfl, k1, k2, k3, k4, k5, k6⟩ := bkC_ex hb
  obtain ⟨sa, sk, si, rfl⟩ := isSp_ex hs
  by_cases h1 : n < 1
  · have e := pgE_lo h1
    unfold vyL vyM
    rw [e]
    refine ret_nil (e := 54) (ret_goes (Γ := Γ mx) hP hZ W13_ok (by kernel_rfl) ⟨0, ?_⟩)
    rw [w13, decide_eq_true h1]; rfl
  · by_cases h2 : n > 100
    · have e := pgE_hi h2
      unfold vyL vyM
      rw [e]
      refine ret_nil (e := 54) (ret_goes (Γ := Γ mx) hP hZ W13_ok (by kernel_rfl) ⟨0, ?_⟩)
      rw [w13, decide_eq_false h1, decide_eq_true h2]; rfl
    · have e := pgE_ok (show 1 ≤ n by omega) (show n ≤ 100 by omega)
      obtain ⟨m, hm⟩ := g13_5 (mx := mx) (p := p) (sb := sa) (sk := sk) (si := si) (c := c3) (os := os) (n := n) (by omega) (by omega) k4 k5 os [] [] 0 rfl rfl (by simp)
      rw [addAll_eq _ _ _ (by simp), List.nil_append, show os.flatMap (objRows p sk si) = (rowsV (fun k => hpB k p) Ver.id (os.map oP) sk si).map rowVP from flat_rows rowVP p sk si os] at hm
      have hv : vRows (D.agg [D.str nm, D.agg [D.int .i64 md, D.int .i64 dy], D.slice c1 rs, D.slice c2 gs, D.slice c3 os, D.slice c4 us]) p (D.agg [D.str sa, D.str sk, D.int .u64 si]) = rowsV (fun k => hpB k p) Ver.id (os.map oP) sk si := rfl
      unfold vyL vyM
      rw [e, hv]
      rw [List.length_map, ← List.map_take] at hm
      have hd : decide (n.toNat < (rowsV (fun k => hpB k p) Ver.id (os.map oP) sk si).length) = decide (n < ((rowsV (fun k => hpB k p) Ver.id (os.map oP) sk si).length : Int)) := decide_eq_decide.2 (by omega)
      rw [hd, resV_ob] at hm
      refine ret_resV (x := (((rowsV (fun k => hpB k p) Ver.id (os.map oP) sk si).take n.toNat).map rowVP, decide (n < ((rowsV (fun k => hpB k p) Ver.id (os.map oP) sk si).length : Int)))) (ret_goes (Γ := Γ mx) hP hZ W13_ok (by kernel_rfl) ⟨m, ?_⟩)
      rw [w13, decide_eq_false h1, decide_eq_false h2, cond_false, cond_false]
      exact hm
theorem c14' (b : D) (p : Tx) (s : D) (n : Int) (hb : bkS b = true) (hs : isSp s = true) : RetX (Γ mx) 14 [.d 32 b, .s p, .d 43 s, .i .i64 n] [] (.tuple [.sl 54 .any (vyL rowVR b p s n), .b (vyM b p s n), .i .i64 (pgE n)]) [] := by
  obtain ⟨hb, ht⟩ := bkS_eq hb
  obtain ⟨nm, md, dy, c1, rs, c2, gs, c3, os, c4, us, rfl, k1, k2, k3, k4, k5, k6⟩ := bkC_ex hb
  obtain ⟨sa, sk, si, rfl⟩ := isSp_ex hs
  by_cases h1 : n < 1
  · have e := pgE_lo h1
    unfold vyL vyM
    rw [e]
    refine ret_nil (e := 54) (ret_goes (Γ := Γ mx) hP hZ W14_ok (by kernel_rfl) ⟨0, ?_⟩)
    rw [w14, decide_eq_true h1]; rfl
  · by_cases h2 : n > 100
    · have e := pgE_hi h2
      unfold vyL vyM
      rw [e]
      refine ret_nil (e := 54) (ret_goes (Γ := Γ mx) hP hZ W14_ok (by kernel_rfl) ⟨0, ?_⟩)
      rw [w14, decide_eq_false h1, decide_eq_true h2]; rfl
    · have e := pgE_ok (show 1 ≤ n by omega) (show n ≤ 100 by omega)
      have ht : totV os ≤ 4096 := ht
      obtain ⟨m, hm⟩ := g14_5 (mx := mx) (p := p) (sb := sa) (sk := sk) (si := si) (nm := nm) (md := md) (dy := dy) (c1 := c1) (c2 := c2) (c3 := c3) (c4 := c4) (rs := rs) (gs := gs) (us := us) (os := os) (n := n) (by omega) k4 k5 os [] [] 0 rfl rfl (by simp; omega)
      rw [List.nil_append, show os.flatMap (objRowsR p sk si) = (rowsV (fun k => hpB k p) Ver.id (os.map oP) sk si).map rowVR from flat_rows rowVR p sk si os] at hm
      have hv : vRows (D.agg [D.str nm, D.agg [D.int .i64 md, D.int .i64 dy], D.slice c1 rs, D.slice c2 gs, D.slice c3 os, D.slice c4 us]) p (D.agg [D.str sa, D.str sk, D.int .u64 si]) = rowsV (fun k => hpB k p) Ver.id (os.map oP) sk si := rfl
      unfold vyL vyM
      rw [e, hv]
      unfold resR at hm
      rw [List.length_map, ← List.map_take] at hm
      refine ret_goes (Γ := Γ mx) hP hZ W14_ok (by kernel_rfl) ⟨m, ?_⟩
      rw [w14, decide_eq_false h1, decide_eq_false h2, cond_false, cond_false]
      exact hm
theorem spVyP_ok : SpecOK (Γ mx) ⟨13, dat (spVy rowVP)⟩ := dat_ok fun args r hr => by
  unfold spVy at hr
  split at hr
  · simp only [Option.some.injEq, Prod.mk.injEq, Bool.and_eq_true] at hr
    obtain ⟨⟨h1, h2⟩, rfl⟩ := hr
    exact c13' _ _ _ _ h1 h2
  · exact absurd hr (by simp)
theorem spVyR_ok : SpecOK (Γ mx) ⟨14, dat (spVy rowVR)⟩ := dat_ok fun args r hr => by
  unfold spVy at hr
  split at hr
  · simp only [Option.some.injEq, Prod.mk.injEq, Bool.and_eq_true] at hr
    obtain ⟨⟨h1, h2⟩, rfl⟩ := hr
    exact c14' _ _ _ _ h1 h2
  · exact absurd hr (by simp)
/-! ### the first bucket, in what is known of it -/
theorem okOs_tot : ∀ (os : List D) (o : Option Tx) (n : Int), n ≤ 256 → okOs o n os = true → n + (totV os : Int) ≤ 256
  | [], o, n, h, _ => by simp [totV]; omega
  | y :: r, o, n, h, hk => by
    unfold okOs at hk
    simp only [Bool.and_eq_true, decide_eq_true_eq] at hk
    have := okOs_tot r _ _ hk.2.2.1 hk.2.2.2
    simp only [totV]
    omega
theorem fir_ok {s : D} (hs : stC s = true) (hf : firB mx s = true) : ∃ y r, stL s = y :: r ∧ firD mx s = y ∧ bkC y = true ∧ okOs none 0 (bObj y) = true := by
  have hf0 := hf
  unfold firB at hf
  simp only [Bool.and_eq_true] at hf
  have hq := snd_ok hs hf.1
  obtain ⟨m, n, b, c, l, rfl, hl⟩ := stC_ex hs
  cases l with
  | nil => exact absurd hf.2 (by simp [stL])
  | cons y r =>
    refine ⟨y, r, rfl, ?_, List.all_eq_true.1 hl y (by simp), hq⟩
    unfold firD
    rw [hf0]; rfl
theorem fir_bkS {y : D} (h1 : bkC y = true) (h2 : okOs none 0 (bObj y) = true) : bkS y = true := by
  have := okOs_tot _ _ _ (by omega) h2
  unfold bkS
  rw [h1, decide_eq_true (by omega)]; rfl
theorem bObj_all {y : D} (h : bkC y = true) : (bObj y).all oC = true ∧ (bObj y).length ≤ 8388608 := by
  obtain ⟨nm, md, dy, c1, rs, c2, gs, c3, os, c4, us, rfl, _, _, _, k4, k5, _⟩ := bkC_ex h
  exact ⟨k4, k5⟩
theorem vs_mem {o : D} (h : oC o = true) {v : Ver} (hv : v ∈ vsOf (oVs o)) : vC (vD v) = true := by
  obtain ⟨k, c, l, rfl, _, hl⟩ := oC_ex h
  obtain ⟨_, ha⟩ := vsC_eq hl
  obtain ⟨vl, rfl, hvo⟩ := vs_ex ha
  have hv : v ∈ vsOf (vl.map vD) := hv
  rw [hvo] at hv
  exact List.all_eq_true.1 ha _ (List.mem_map.2 ⟨v, hv, rfl⟩)
theorem vRows_mem {b : D} {p : Tx} {s : D} {r : Vr Ver} (hb : bkC b = true) (hr : r ∈ vRows b p s) : vC (vD r.2.1) = true ∧ ∃ o ∈ bObj b, r.1 = oKey o := by
  unfold vRows rowsV at hr
  obtain ⟨q, hq, hr⟩ := List.mem_flatMap.1 hr
  obtain ⟨o, ho, rfl⟩ := List.mem_map.1 hq
  have hr : r ∈ (bif hpB (oKey o) p then (revRows (oKey o) (vsOf (oVs o))).filter (fun r => keepR (spK s) (spI s) r.1 r.2.1.id) else []) := hr
  cases hp : hpB (oKey o) p with
  | false => rw [hp] at hr; simp at hr
  | true =>
    rw [hp] at hr
    obtain ⟨h1, h2⟩ := mem_rev (List.mem_filter.1 hr).1
    exact ⟨vs_mem (List.all_eq_true.1 (bObj_all hb).1 o ho) h2, o, ho, h1⟩
theorem rw1_VP {r : Vr Ver} (h : vC (vD r.2.1) = true) : rw1 (rowVP r) = true ∧ rw1 (rowVR r) = true := ⟨h, h⟩
theorem okV_of {v : Ver} (h : vC (vD v) = true) : okV v := by
  have := vC_dg h
  unfold dgC at this
  simp only [Bool.and_eq_true] at this
  exact this.2
theorem rwC_rows {f : Vr Ver → D} {b : D} {p : Tx} {s : D} {n : Int} (hb : bkC b = true) (hf : ∀ r, vC (vD r.2.1) = true → rw1 (f r) = true) : rwC (vyL f b p s n) = true := by
  unfold vyL
  cases he : pgE n == 0 with
  | false => rfl
  | true =>
    rw [cond_true]
    have hn : n.toNat ≤ 100 := by
      have := eq_of_beq he
      by_cases h2 : n > 100
      · rw [pgE_hi h2] at this; exact absurd this (by decide)
      · omega
    unfold rwC
    rw [decide_eq_true (by rw [List.length_map, List.length_take]; omega), Bool.true_and]
    refine List.all_eq_true.2 fun d hd => ?_
    obtain ⟨r, hr, rfl⟩ := List.mem_map.1 hd
    exact hf r (vRows_mem hb (List.mem_of_mem_take hr)).1
theorem vy_same {b : D} {p : Tx} {s : D} {n : Int} (hb : bkC b = true) : rowsS (vyL rowVP b p s n) (vyL rowVR b p s n) = true := by
  unfold vyL
  cases pgE n == 0 with
  | false => rfl
  | true => exact page_same _ fun r hr => (rowS_ver (okV_of (vRows_mem hb hr).1)).1
end Go.Proofs.Ytapaenfafjmljaa.V

/- Lists: awake, a closed run. -/
namespace Go.Proofs.Ytapaenfafjmljaa.V
open Go
set_option maxRecDepth 100000
set_option linter.unusedVariables false
set_option linter.unusedSimpArgs false
variable {mx : Int}
def cutG (s p : List UInt8) : AV := .tuple [.s (Lib.cut s p).1, .s (Lib.cut s p).2.1, .b (Lib.cut s p).2.2]
theorem cutG_ret (s p : List UInt8) (h : s32 s = true) : RetX (Γ mx) 40 [.s s, .s p] [] (cutG s p) [] := by
  refine ret_shelfN (by kernel_rfl) fun w S vals hS hG ha => ?_
  simp only [RepAs, RepA] at ha
  obtain ⟨v, _, rfl, ⟨s, rfl, rfl⟩, v', _, rfl, ⟨p, rfl, rfl⟩, rfl⟩ := ha
  refine (Any.strings_Cut Lt.lays145 s p mx w (by simpa [s32] using h) (max_cell hG)).mono ?_
  rintro e w' ⟨rfl, n, rfl⟩
  refine ⟨_, rfl, below_drewN n, S, fun _ h => h, fun _ h => .inl h, ?_⟩
  simp only [cutG, RepA, RepAs]
  exact ⟨_, rfl, _, _, rfl, ⟨_, rfl, rfl⟩, _, _, rfl, ⟨_, rfl, rfl⟩, _, _, rfl, rfl, rfl⟩
def spCutG : List AV → Option (Bool × AV)
  | [.s s, .s p] => some (s32 s, cutG s p)
  | _ => none
theorem spCutG_ok : SpecOK (Γ mx) ⟨40, dat spCutG⟩ := dat_ok fun args r hr => by
  unfold spCutG at hr
  split at hr
  · simp only [Option.some.injEq, Prod.mk.injEq] at hr
    obtain ⟨h1, rfl⟩ := hr
    exact cutG_ret _ _ h1
  · exact absurd hr (by simp)
def HA : Handle := runS [⟨40, dat spCutG⟩, ⟨38, dat (spD1 52 vC fun v => .d 52 (cloneD v))⟩]
theorem hA_ok : CallsOK (Γ mx) HA := specs_ok (.cons spCutG_ok (.cons (spD1_ok c127) .nil))
theorem awake_run : callN (Γ mx) HA 60 9 [] [] = some (true, .b true, []) := by kernel_rfl
theorem c9' (_ : true = true) : RetX (Γ mx) 9 [] [] (.b true) [] := ret_run hP hZ hN hA_ok awake_run
end Go.Proofs.Ytapaenfafjmljaa.V

/- Lists: the law ListVersions. -/
namespace Go.Proofs.Ytapaenfafjmljaa.V
open Go
set_option maxRecDepth 100000
set_option linter.unusedVariables false
set_option linter.unusedSimpArgs false
variable {mx : Int}
theorem W4_ok : CallsOK (Γ mx) (W4 mx) := specs_ok (.cons (sp0_ok c9') (.cons (spD1_ok c8') (.cons spVyP_ok (.cons spVyR_ok (.cons (spLL_ok c12') .nil)))))
theorem law4 (s : D) (p : Tx) (q : D) (n : Int) (hs : stC s = true) (hq : isSp q = true) : RetX (Γ mx) 4 [.d 24 s, .s p, .d 43 q, .i .i64 n] [] (.b true) [] := by
  have hs0 := hs
  obtain ⟨m, sn, sb, sc, sl, rfl, hl⟩ := stC_ex hs
  obtain ⟨qa, qk, qi, rfl⟩ := isSp_ex hq
  have : EXR (.b true, []) fun k => evF (Γ mx) (W4 mx) (L (Γ mx) (W4 mx) 4 k) 4 [.d 24 (D.agg [D.int .i64 m, D.int .u64 sn, D.int .u64 sb, D.slice sc sl]), .s p, .d 43 (D.agg [D.str qa, D.str qk, D.int .u64 qi]), .i .i64 n] [] := by
    refine er_of (fun k => w4 _ m sn sb sc sl p qa qk qi n) ?_
    refine er_t hs0 ?_
    cases hf : firB mx (D.agg [D.int .i64 m, D.int .u64 sn, D.int .u64 sb, D.slice sc sl]) with
    | false =>
      have hD : firD mx (D.agg [D.int .i64 m, D.int .u64 sn, D.int .u64 sb, D.slice sc sl]) = D.agg [D.str [], D.agg [D.int .i64 0, D.int .i64 0], D.slice .nl [], D.slice .nl [], D.slice .nl [], D.slice .nl []] := by
        unfold firD; rw [hf]; rfl
      rw [hD]
      exact er_agg (er_lc (er_s (er_lc (er_agg (er_lc (er_i (er_lc (er_i (er_ln (er_lc (er_sl (er_lc (er_sl (er_lc (er_sl (er_lc (er_sl (er_ln (er_t rfl er_some)))))))))))))))))))
    | true =>
      obtain ⟨y, r, hy1, hD, hbk, hok⟩ := fir_ok hs0 hf
      have hS := fir_bkS hbk hok
      rw [hD]
      obtain ⟨nm, md, dy, c1, rs, c2, gs, c3, os, c4, us, rfl, _⟩ := bkC_ex hbk
      refine er_agg (er_lc (er_s (er_lc (er_agg (er_lc (er_i (er_lc (er_i (er_ln (er_lc (er_sl (er_lc (er_sl (er_lc (er_sl (er_lc (er_sl (er_ln (er_f rfl ?_)))))))))))))))))))
      have hc : (bkS (D.agg [D.str nm, D.agg [D.int .i64 md, D.int .i64 dy], D.slice c1 rs, D.slice c2 gs, D.slice c3 os, D.slice c4 us]) && isSp (D.agg [D.str qa, D.str qk, D.int .u64 qi])) = true := by rw [hS]; rfl
      refine er_t hc (er_t hc (er_t (beq_self_eq_true _) (er_t (beq_self_eq_true _) (er_t ?_ ?_))))
      · rw [rwC_rows hbk fun r h => (rw1_VP h).1, rwC_rows hbk fun r h => (rw1_VP h).2]; rfl
      · rw [vy_same hbk]; exact er_some
  obtain ⟨k, hk⟩ := this
  exact ret_goes (Γ := Γ mx) hP hZ W4_ok (by kernel_rfl) ⟨k, hk⟩
end Go.Proofs.Ytapaenfafjmljaa.V

/- Lists: what is known of a sound bucket's rows: they are in order; how many there are. -/
namespace Go.Proofs.Ytapaenfafjmljaa.V
open Go
set_option maxRecDepth 100000
set_option linter.unusedVariables false
set_option linter.unusedSimpArgs false
variable {mx : Int}
theorem ris_asc : ∀ {vl : List Ver} {o : Option Ver}, ris1 o vl = true → (∀ p, o = some p → ∀ v ∈ vl, p.id < v.id) ∧ vl.Pairwise fun a b => a.id < b.id
  | [], o, _ => ⟨fun _ _ v hv => absurd hv (by simp), List.Pairwise.nil⟩
  | v :: r, none, h => by
    simp only [ris1, Bool.and_eq_true] at h
    obtain ⟨h1, h2⟩ := ris_asc h.2
    exact ⟨fun p hp => absurd hp (by simp), List.pairwise_cons.2 ⟨h1 v rfl, h2⟩⟩
  | v :: r, some p, h => by
    simp only [ris1, Bool.and_eq_true] at h
    obtain ⟨h1, h2⟩ := ris_asc h.2.2
    have hb := h.2.1
    unfold behV at hb
    simp only [Bool.and_eq_true, decide_eq_true_eq] at hb
    refine ⟨fun p' hp => ?_, List.pairwise_cons.2 ⟨h1 v rfl, h2⟩⟩
    cases hp
    intro x hx
    rcases List.mem_cons.1 hx with rfl | hx
    · omega
    · have := h1 v rfl x hx; omega
theorem snd_asc {o : D} (h : oSnd o = true) : (oP o).1 ≠ [] ∧ (oP o).2.Pairwise fun a b => a.id < b.id := by
  unfold oSnd at h
  simp only [Bool.and_eq_true] at h
  refine ⟨?_, (ris_asc h.2.2).2⟩
  have := h.1
  unfold keyB at this
  simp only [Bool.and_eq_true, Bool.not_eq_true', beq_eq_false_iff_ne] at this
  exact this.1
theorem ok_asc : ∀ {os : List D} {o : Option Tx} {n : Int}, okOs o n os = true → (∀ p, o = some p → ∀ y ∈ os, lessB p (oKey y) = true) ∧ (os.map oP).Pairwise (fun a b => lessB a.1 b.1 = true) ∧ ∀ y ∈ os, oSnd y = true
  | [], o, n, _ => ⟨fun _ _ y hy => by simp at hy, List.Pairwise.nil, fun y hy => by simp at hy⟩
  | y :: r, o, n, h => by
    unfold okOs at h
    simp only [Bool.and_eq_true] at h
    obtain ⟨h1, h2, h3⟩ := ok_asc h.2.2.2
    refine ⟨fun p hp => ?_, ?_, ?_⟩
    · subst hp
      have hl : lessB p (oKey y) = true := h.2.1
      intro z hz
      rcases List.mem_cons.1 hz with rfl | hz
      · exact hl
      · exact lessB_trans hl (h1 _ rfl z hz)
    · rw [List.map_cons, List.pairwise_cons]
      refine ⟨fun q hq => ?_, h2⟩
      obtain ⟨z, hz, rfl⟩ := List.mem_map.1 hq
      exact h1 _ rfl z hz
    · intro z hz
      rcases List.mem_cons.1 hz with rfl | hz
      · exact h.1
      · exact h3 z hz
theorem rev_len (k : Tx) (vs : List Ver) : (revRows k vs).length = vs.length := by
  unfold revRows
  have := vs.length_reverse
  revert this
  cases vs.reverse with
  | nil => intro h; simp at h; simp [h]
  | cons v t => intro h; simp at h ⊢; omega
theorem vs_len {l : List D} (h : l.all vC = true) : (vsOf l).length = l.length := by
  obtain ⟨vl, rfl, hv⟩ := vs_ex h
  rw [hv, List.length_map]
theorem rowsV_len (pre : Tx → Bool) (fk : Tx) (fi : Int) : ∀ {os : List D}, os.all oC = true → (rowsV pre Ver.id (os.map oP) fk fi).length ≤ totV os
  | [], _ => Nat.le_refl _
  | o :: os, h => by
    have h : oC o = true ∧ os.all oC = true := by simpa using h
    have ih := rowsV_len pre fk fi h.2
    obtain ⟨k, c, l, rfl, _, hl⟩ := oC_ex h.1
    have hv := vs_len (vsC_eq hl).2
    unfold rowsV at ih ⊢
    rw [List.map_cons, List.flatMap_cons, List.length_append, totV]
    have : (bif pre (oP (D.agg [.str k, .slice c l])).1 then (revRows (oP (D.agg [.str k, .slice c l])).1 (oP (D.agg [.str k, .slice c l])).2).filter fun r => keepR fk fi r.1 (Ver.id r.2.1) else []).length ≤ l.length := by
      cases pre (oP (D.agg [.str k, .slice c l])).1 with
      | false => simp
      | true =>
        rw [cond_true]
        refine Nat.le_trans (List.length_filter_le _ _) ?_
        rw [rev_len]
        exact Nat.le_of_eq hv
    have e : (oVs (D.agg [.str k, .slice c l])).length = l.length := rfl
    omega
/-- behind a row: the rest -/
theorem vRows_next {b : D} {p : Tx} {j : Nat} {x : Vr Ver} {sa sb : Tx} (hok : okOs none 0 (bObj b) = true) (h : (vRows b p (D.agg [.str sa, .str [], .int .u64 0]))[j]? = some x) :
    vRows b p (D.agg [.str sb, .str x.1, .int .u64 x.2.1.id]) = (vRows b p (D.agg [.str sa, .str [], .int .u64 0])).drop (j + 1) := by
  obtain ⟨_, h2, h3⟩ := ok_asc hok
  have hx : x.1 ≠ [] := by
    obtain ⟨q, hq, hr⟩ := List.mem_flatMap.1 (show x ∈ rowsV (fun k => hpB k p) Ver.id ((bObj b).map oP) [] 0 from List.mem_of_getElem? h)
    obtain ⟨o, ho, rfl⟩ := List.mem_map.1 hq
    have hr : x ∈ (bif hpB (oP o).1 p then (revRows (oP o).1 (oP o).2).filter (fun r => keepR [] 0 r.1 r.2.1.id) else []) := hr
    cases hp : hpB (oP o).1 p with
    | false => rw [hp] at hr; simp at hr
    | true =>
      rw [hp] at hr
      rw [(mem_rev (List.mem_filter.1 hr).1).1]
      exact (snd_asc (h3 o ho)).1
  exact versions_drop (fun k => hpB k p) Ver.id h2 (fun q hq => by
    obtain ⟨o, ho, rfl⟩ := List.mem_map.1 hq
    exact (snd_asc (h3 o ho)).2) h hx
/-- rows held against rows, of which the first may be none at all -/
def spSm : List AV → Option (Bool × AV)
  | [.snil, .sl s _ y] => some (Nat.beq s 54 && (rwC [] && rwC y), .b (rowsS [] y))
  | [.sl t _ x, .sl s _ y] => some (Nat.beq t 54 && (Nat.beq s 54 && (rwC x && rwC y)), .b (rowsS x y))
  | _ => none
theorem spSm_ok : SpecOK (Γ mx) ⟨12, dat spSm⟩ := dat_ok fun args r hr => by
  unfold spSm at hr
  split at hr
  · simp only [Option.some.injEq, Prod.mk.injEq] at hr
    obtain ⟨h0, rfl⟩ := hr
    rw [Bool.and_eq_true] at h0
    obtain rfl := beq_id h0.1
    exact (c12' [] _ h0.2).args (.cons (WkA.nil 54) (.cons (WkA.sl _ _ _) .nil))
  · simp only [Option.some.injEq, Prod.mk.injEq] at hr
    obtain ⟨h0, rfl⟩ := hr
    rw [Bool.and_eq_true, Bool.and_eq_true] at h0
    obtain rfl := beq_id h0.1
    obtain rfl := beq_id h0.2.1
    exact (c12' _ _ h0.2.2).args (.cons (WkA.sl _ _ _) (.cons (WkA.sl _ _ _) .nil))
  · exact absurd hr (by simp)
end Go.Proofs.Ytapaenfafjmljaa.V

/- Lists: what the machine over values makes of functions (27, 28, 16): equations, written by program. -/
namespace Go.Proofs.Ytapaenfafjmljaa.V
open Go
set_option maxRecDepth 100000
set_option linter.unusedVariables false
set_option linter.unusedSimpArgs false
variable {mx : Int}
/-- is a version wanted? -/
def wnV (ft : List D) (ff fo fl fm : Int) (fb : Bool) (v : Ver) (l : Bool) : Bool := !v.mr && (decide (v.cr ≥ ff) && (decide (v.cr ≤ fo) && (decide (v.sz ≥ fl) && (decide (v.sz ≤ fm) && (withinB ft v.tg && (l || !fb))))))
def fW : D → Ver → Bool → Bool
  | .agg [.str _, .slice _ ft, .int _ ff, .int _ fo, .int _ fl, .int _ fm, .bool fb], v, l => wnV ft ff fo fl fm fb v l
  | _, _, _ => false
def fP : D → Tx
  | .agg [.str p, _, _, _, _, _, _] => p
  | _ => []
def fC : D → Bool
  | .agg [.str _, .slice _ ft, .int .i64 _, .int .i64 _, .int .i64 _, .int .i64 _, .bool _] => tC ft
  | _ => false
def wnB (f v : D) (l : Bool) : Bool := match vOf v with | some v => fW f v l | none => false
def ahB (k : Tx) (i : Int) (s : D) : Bool := !(spK s == []) && (lessB k (spK s) || (k == spK s && decide (i ≥ spI s)))
def fRows (b f s : D) : List (Vr Ver) := (vRows b (fP f) s).filter fun r => fW f r.2.1 r.2.2
def fyA (R : List (Vr Ver)) (f : Vr Ver → D) (n : Int) : List D := bif pgE n == 0 then (R.take n.toNat).map f else []
def fyN (R : List (Vr Ver)) (n : Int) : Bool := pgE n == 0 && decide (n < (R.length : Int))
def spAh : List AV → Option (Bool × AV)
  | [.s k, .i .u64 i, .d 43 s] => some (isSp s, .b (ahB k i s))
  | _ => none
def spWn : List AV → Option (Bool × AV)
  | [.d 62 f, .d 52 v, .b l] => some (fC f && vC v, .b (wnB f v l))
  | _ => none
def spFi : List AV → Option (Bool × AV)
  | [.d 32 b, .d 62 f, .d 43 s, .i .i64 n] => some (bkS b && (fC f && isSp s), .tuple [.sl 54 .any (fyA (fRows b f s) rowVP n), .b (fyN (fRows b f s) n), .i .i64 (pgE n)])
  | _ => none
theorem w27 (lab : Lab) (k : List UInt8) (i : Int) (pb : List UInt8) (pk : List UInt8) (pi : Int) : evF (Γ mx) (runS []) lab 27 [.s k, .i .u64 i, .d 43 (D.agg [D.str pb, D.str pk, D.int .u64 pi])] [] =
  bif !(pk == ([] : List UInt8)) then (bif lessB k pk then (some (.b true, [])) else (bif k == pk then (some (.b (decide (i ≥ pi)), [])) else (some (.b false, [])))) else (some (.b false, [])) := by kernel_rfl
def W28 : Handle := runS [⟨42, dat (spLL 82 82 (fun a b => tC a && tC b) fun a b => .b (withinB a b))⟩]
theorem w28 (lab : Lab) (fp : List UInt8) (fc : Cp) (ft : List D) (ff : Int) (fo : Int) (fl : Int) (fm : Int) (fb : Bool) (vid : Int) (vmk : Bool) (vsz : Int) (vbl : Int) (vdg : List D) (vcr : Int) (vmd : Int) (vun : Int) (vho : Bool) (vc : Cp) (vtg : List D) (l : Bool) : evF (Γ mx) W28 lab 28 [.d 62 (D.agg [D.str fp, D.slice fc ft, D.int .i64 ff, D.int .i64 fo, D.int .i64 fl, D.int .i64 fm, D.bool fb]), .d 52 (D.agg [D.int .u64 vid, D.bool vmk, D.int .i64 vsz, D.int .u64 vbl, D.agg vdg, D.int .i64 vcr, D.agg [D.int .i64 vmd, D.int .i64 vun, D.bool vho], D.slice vc vtg]), .b l] [] =
  bif vmk then (bif vmk then (some (.b false, [])) else (bif decide (vcr < ff) then (bif decide (vcr < ff) then (some (.b false, [])) else (bif tC ft && tC vtg then (some (.b (withinB ft vtg), [])) else none)) else (bif decide (vcr > fo) then (bif decide (vcr > fo) then (some (.b false, [])) else (bif tC ft && tC vtg then (some (.b (withinB ft vtg), [])) else none)) else (bif decide (vsz < fl) then (bif decide (vsz < fl) then (some (.b false, [])) else (bif tC ft && tC vtg then (some (.b (withinB ft vtg), [])) else none)) else (bif decide (vsz > fm) then (some (.b false, [])) else (bif tC ft && tC vtg then (some (.b (withinB ft vtg), [])) else none)))))) else (bif fb then (bif !l then (some (.b false, [])) else (bif decide (vcr < ff) then (bif decide (vcr < ff) then (some (.b false, [])) else (bif tC ft && tC vtg then (some (.b (withinB ft vtg), [])) else none)) else (bif decide (vcr > fo) then (bif decide (vcr > fo) then (some (.b false, [])) else (bif tC ft && tC vtg then (some (.b (withinB ft vtg), [])) else none)) else (bif decide (vsz < fl) then (bif decide (vsz < fl) then (some (.b false, [])) else (bif tC ft && tC vtg then (some (.b (withinB ft vtg), [])) else none)) else (bif decide (vsz > fm) then (some (.b false, [])) else (bif tC ft && tC vtg then (some (.b (withinB ft vtg), [])) else none)))))) else (bif decide (vcr < ff) then (bif decide (vcr < ff) then (some (.b false, [])) else (bif tC ft && tC vtg then (some (.b (withinB ft vtg), [])) else none)) else (bif decide (vcr > fo) then (bif decide (vcr > fo) then (some (.b false, [])) else (bif tC ft && tC vtg then (some (.b (withinB ft vtg), [])) else none)) else (bif decide (vsz < fl) then (bif decide (vsz < fl) then (some (.b false, [])) else (bif tC ft && tC vtg then (some (.b (withinB ft vtg), [])) else none)) else (bif decide (vsz > fm) then (some (.b false, [])) else (bif tC ft && tC vtg then (some (.b (withinB ft vtg), [])) else none)))))) := by kernel_rfl
def W16 : Handle := runS [⟨19, dat (sp2 (fun _ _ => true) fun a b => .b (hpB a b))⟩, ⟨20, dat spRow⟩, ⟨22, xAdd⟩, ⟨27, dat spAh⟩, ⟨28, dat spWn⟩]
theorem w16 (lab : Lab) (bn : List UInt8) (bm : Int) (bd : Int) (brc : Cp) (brs : List D) (bgc : Cp) (bgs : List D) (boc : Cp) (bos : List D) (buc : Cp) (bus : List D) (fp : List UInt8) (fc : Cp) (ft : List D) (ff : Int) (fo : Int) (fl : Int) (fm : Int) (fb : Bool) (pb : List UInt8) (pk : List UInt8) (pi : Int) (n : Int) : evF (Γ mx) W16 lab 16 [.d 32 (D.agg [D.str bn, D.agg [D.int .i64 bm, D.int .i64 bd], D.slice brc brs, D.slice bgc bgs, D.slice boc bos, D.slice buc bus]), .d 62 (D.agg [D.str fp, D.slice fc ft, D.int .i64 ff, D.int .i64 fo, D.int .i64 fl, D.int .i64 fm, D.bool fb]), .d 43 (D.agg [D.str pb, D.str pk, D.int .u64 pi]), .i .i64 n] [] =
  bif decide (n < 1) then (some (.tuple [.snil, .b false, .i .i64 1], [])) else (bif decide (n > 100) then (some (.tuple [.snil, .b false, .i .i64 1], [])) else (lab (todoAt (Γ mx) 16 5) ⟨[(5, .ptr 0 [] 62), (6, .ptr 1 [] 43), (11, .ptr 2 [] 69), (27, .sl 59 boc bos), (28, .i .i64 ((bos.length : Int))), (29, .i .i64 0)], [some (.box 62 (.d 62 (D.agg [D.str fp, D.slice fc ft, D.int .i64 ff, D.int .i64 fo, D.int .i64 fl, D.int .i64 fm, D.bool fb]))), some (.box 43 (.d 43 (D.agg [D.str pb, D.str pk, D.int .u64 pi]))), some (.box 69 (.d 69 (D.agg [D.slice .nl [], D.int .i64 n, D.bool false])))]⟩)) := by kernel_rfl
theorem w16_5a (lab : Lab) (c1 : Cp) (l2 : List D) (n3 : Int) (n4 : Int) (s5 : List UInt8) (c6 : Cp) (l7 : List D) (n8 : Int) (n9 : Int) (n10 : Int) (n11 : Int) (b12 : Bool) (s13 : List UInt8) (s14 : List UInt8) (n15 : Int) (n16 : Int) (b17 : Bool) : evL (Γ mx) W16 lab 16 5 ⟨[(5, .ptr 0 [] 62), (6, .ptr 1 [] 43), (11, .ptr 2 [] 69), (27, .sl 59 c1 l2), (28, .i .i64 n3), (29, .i .i64 n4)], [some (.box 62 (.d 62 (D.agg [D.str s5, D.slice c6 l7, D.int .i64 n8, D.int .i64 n9, D.int .i64 n10, D.int .i64 n11, D.bool b12]))), some (.box 43 (.d 43 (D.agg [D.str s13, D.str s14, D.int .u64 n15]))), some (.box 69 (.d 69 (D.agg [D.slice .nl [], D.int .i64 n16, D.bool b17])))]⟩ =
  bif decide (n4 < n3) then (idx l2 n4 fun y18 => dAgg y18 fun y19 => lCons y19 fun a20 r21 => dStr a20 fun s22 => lCons r21 fun a23 r24 => dSlice a23 fun c25 l26 => lNil r24 (bif !(hpB s22 s5) then (lab (todoAt (Γ mx) 16 5) ⟨[(5, .ptr 0 [] 62), (6, .ptr 1 [] 43), (11, .ptr 2 [] 69), (27, .sl 59 c1 l2), (28, .i .i64 n3), (29, .i .i64 (IntKind.wrap .i64 (n4 + 1)))], [some (.box 62 (.d 62 (D.agg [D.str s5, D.slice c6 l7, D.int .i64 n8, D.int .i64 n9, D.int .i64 n10, D.int .i64 n11, D.bool b12]))), some (.box 43 (.d 43 (D.agg [D.str s13, D.str s14, D.int .u64 n15]))), some (.box 69 (.d 69 (D.agg [D.slice .nl [], D.int .i64 n16, D.bool b17])))]⟩) else (lab (todoAt (Γ mx) 16 9) ⟨[(5, .ptr 0 [] 62), (6, .ptr 1 [] 43), (11, .ptr 2 [] 69), (13, .ptr 3 [] 59), (14, .i .i64 (IntKind.wrap .i64 (((l26.length : Int)) - 1))), (27, .sl 59 c1 l2), (28, .i .i64 n3), (29, .i .i64 n4)], [some (.box 62 (.d 62 (D.agg [D.str s5, D.slice c6 l7, D.int .i64 n8, D.int .i64 n9, D.int .i64 n10, D.int .i64 n11, D.bool b12]))), some (.box 43 (.d 43 (D.agg [D.str s13, D.str s14, D.int .u64 n15]))), some (.box 69 (.d 69 (D.agg [D.slice .nl [], D.int .i64 n16, D.bool b17]))), some (.box 59 (.d 59 (D.agg [D.str s22, D.slice c25 l26])))]⟩))) else (some (.tuple [.sl 54 .nl [], .b b17, .i .i64 0], [])) := by kernel_rfl
theorem w16_9a (lab : Lab) (n1 : Int) (c2 : Cp) (l3 : List D) (n4 : Int) (n5 : Int) (s6 : List UInt8) (c7 : Cp) (l8 : List D) (n9 : Int) (n10 : Int) (n11 : Int) (n12 : Int) (b13 : Bool) (s14 : List UInt8) (s15 : List UInt8) (n16 : Int) (n17 : Int) (b18 : Bool) (s19 : List UInt8) (c20 : Cp) (l21 : List D) : evL (Γ mx) W16 lab 16 9 ⟨[(5, .ptr 0 [] 62), (6, .ptr 1 [] 43), (11, .ptr 2 [] 69), (13, .ptr 3 [] 59), (14, .i .i64 n1), (27, .sl 59 c2 l3), (28, .i .i64 n4), (29, .i .i64 n5)], [some (.box 62 (.d 62 (D.agg [D.str s6, D.slice c7 l8, D.int .i64 n9, D.int .i64 n10, D.int .i64 n11, D.int .i64 n12, D.bool b13]))), some (.box 43 (.d 43 (D.agg [D.str s14, D.str s15, D.int .u64 n16]))), some (.box 69 (.d 69 (D.agg [D.slice .nl [], D.int .i64 n17, D.bool b18]))), some (.box 59 (.d 59 (D.agg [D.str s19, D.slice c20 l21])))]⟩ =
  bif decide (n1 ≥ 0) then (idx l21 n1 fun y22 => dAgg y22 fun y23 => lCons y23 fun a24 r25 => dInt .u64 a24 fun n26 => lCons r25 fun a27 r28 => dBool a27 fun b29 => lCons r28 fun a30 r31 => dInt .i64 a30 fun n32 => lCons r31 fun a33 r34 => dInt .u64 a33 fun n35 => lCons r34 fun a36 r37 => dAgg a36 fun y38 => lCons r37 fun a39 r40 => dInt .i64 a39 fun n41 => lCons r40 fun a42 r43 => dAgg a42 fun y44 => lCons y44 fun a45 r46 => dInt .i64 a45 fun n47 => lCons r46 fun a48 r49 => dInt .i64 a48 fun n50 => lCons r49 fun a51 r52 => dBool a51 fun b53 => lNil r52 (lCons r43 fun a54 r55 => dSlice a54 fun c56 l57 => lNil r55 (bif isSp (D.agg [D.str s14, D.str s15, D.int .u64 n16]) then (bif ahB s19 n26 (D.agg [D.str s14, D.str s15, D.int .u64 n16]) then (lab (todoAt (Γ mx) 16 9) ⟨[(5, .ptr 0 [] 62), (6, .ptr 1 [] 43), (11, .ptr 2 [] 69), (13, .ptr 3 [] 59), (14, .i .i64 (IntKind.wrap .i64 (n1 - 1))), (27, .sl 59 c2 l3), (28, .i .i64 n4), (29, .i .i64 n5)], [some (.box 62 (.d 62 (D.agg [D.str s6, D.slice c7 l8, D.int .i64 n9, D.int .i64 n10, D.int .i64 n11, D.int .i64 n12, D.bool b13]))), some (.box 43 (.d 43 (D.agg [D.str s14, D.str s15, D.int .u64 n16]))), some (.box 69 (.d 69 (D.agg [D.slice .nl [], D.int .i64 n17, D.bool b18]))), some (.box 59 (.d 59 (D.agg [D.str s19, D.slice c20 l21])))]⟩) else (bif fC (D.agg [D.str s6, D.slice c7 l8, D.int .i64 n9, D.int .i64 n10, D.int .i64 n11, D.int .i64 n12, D.bool b13]) && vC (D.agg [D.int .u64 n26, D.bool b29, D.int .i64 n32, D.int .u64 n35, D.agg y38, D.int .i64 n41, D.agg [D.int .i64 n47, D.int .i64 n50, D.bool b53], D.slice c56 l57]) then (bif !(wnB (D.agg [D.str s6, D.slice c7 l8, D.int .i64 n9, D.int .i64 n10, D.int .i64 n11, D.int .i64 n12, D.bool b13]) (D.agg [D.int .u64 n26, D.bool b29, D.int .i64 n32, D.int .u64 n35, D.agg y38, D.int .i64 n41, D.agg [D.int .i64 n47, D.int .i64 n50, D.bool b53], D.slice c56 l57]) (n1 == (IntKind.wrap .i64 (((l21.length : Int)) - 1)))) then (lab (todoAt (Γ mx) 16 9) ⟨[(5, .ptr 0 [] 62), (6, .ptr 1 [] 43), (11, .ptr 2 [] 69), (13, .ptr 3 [] 59), (14, .i .i64 (IntKind.wrap .i64 (n1 - 1))), (27, .sl 59 c2 l3), (28, .i .i64 n4), (29, .i .i64 n5)], [some (.box 62 (.d 62 (D.agg [D.str s6, D.slice c7 l8, D.int .i64 n9, D.int .i64 n10, D.int .i64 n11, D.int .i64 n12, D.bool b13]))), some (.box 43 (.d 43 (D.agg [D.str s14, D.str s15, D.int .u64 n16]))), some (.box 69 (.d 69 (D.agg [D.slice .nl [], D.int .i64 n17, D.bool b18]))), some (.box 59 (.d 59 (D.agg [D.str s19, D.slice c20 l21])))]⟩) else (bif vC (D.agg [D.int .u64 n26, D.bool b29, D.int .i64 n32, D.int .u64 n35, D.agg y38, D.int .i64 n41, D.agg [D.int .i64 n47, D.int .i64 n50, D.bool b53], D.slice c56 l57]) then (bif !((0 : Int) == n17) then (lab (todoAt (Γ mx) 16 9) ⟨[(5, .ptr 0 [] 62), (6, .ptr 1 [] 43), (11, .ptr 2 [] 69), (13, .ptr 4 [] 59), (14, .i .i64 (IntKind.wrap .i64 (n1 - 1))), (27, .sl 59 c2 l3), (28, .i .i64 n4), (29, .i .i64 n5)], [some (.box 62 (.d 62 (D.agg [D.str s6, D.slice c7 l8, D.int .i64 n9, D.int .i64 n10, D.int .i64 n11, D.int .i64 n12, D.bool b13]))), some (.box 43 (.d 43 (D.agg [D.str s14, D.str s15, D.int .u64 n16]))), some (.box 69 (.agg 69 [.ref 54 3, .i .i64 n17, .b b18])), some (.arr 54 ([D.agg [D.str s19, D.bool false, D.agg [D.int .u64 n26, D.bool b29, D.int .i64 n32, D.int .u64 n35, D.agg y38, D.int .i64 n41, D.agg [D.int .i64 n47, D.int .i64 n50, D.bool b53], D.slice .cl l57], D.bool (n1 == (IntKind.wrap .i64 (((l21.length : Int)) - 1)))]]) false), some (.box 59 (.d 59 (D.agg [D.str s19, D.slice c20 l21])))]⟩) else none) else none)) else none)) else none))) else (lab (todoAt (Γ mx) 16 5) ⟨[(5, .ptr 0 [] 62), (6, .ptr 1 [] 43), (11, .ptr 2 [] 69), (27, .sl 59 c2 l3), (28, .i .i64 n4), (29, .i .i64 (IntKind.wrap .i64 (n5 + 1)))], [some (.box 62 (.d 62 (D.agg [D.str s6, D.slice c7 l8, D.int .i64 n9, D.int .i64 n10, D.int .i64 n11, D.int .i64 n12, D.bool b13]))), some (.box 43 (.d 43 (D.agg [D.str s14, D.str s15, D.int .u64 n16]))), some (.box 69 (.d 69 (D.agg [D.slice .nl [], D.int .i64 n17, D.bool b18])))]⟩) := by kernel_rfl
theorem w16_9b (lab : Lab) (n1 : Int) (c2 : Cp) (l3 : List D) (n4 : Int) (n5 : Int) (s6 : List UInt8) (c7 : Cp) (l8 : List D) (n9 : Int) (n10 : Int) (n11 : Int) (n12 : Int) (b13 : Bool) (s14 : List UInt8) (s15 : List UInt8) (n16 : Int) (n17 : Int) (b18 : Bool) (l19 : List D) (s20 : List UInt8) (c21 : Cp) (l22 : List D) : evL (Γ mx) W16 lab 16 9 ⟨[(5, .ptr 0 [] 62), (6, .ptr 1 [] 43), (11, .ptr 2 [] 69), (13, .ptr 4 [] 59), (14, .i .i64 n1), (27, .sl 59 c2 l3), (28, .i .i64 n4), (29, .i .i64 n5)], [some (.box 62 (.d 62 (D.agg [D.str s6, D.slice c7 l8, D.int .i64 n9, D.int .i64 n10, D.int .i64 n11, D.int .i64 n12, D.bool b13]))), some (.box 43 (.d 43 (D.agg [D.str s14, D.str s15, D.int .u64 n16]))), some (.box 69 (.agg 69 [.ref 54 3, .i .i64 n17, .b b18])), some (.arr 54 l19 false), some (.box 59 (.d 59 (D.agg [D.str s20, D.slice c21 l22])))]⟩ =
  bif decide (n1 ≥ 0) then (idx l22 n1 fun y23 => dAgg y23 fun y24 => lCons y24 fun a25 r26 => dInt .u64 a25 fun n27 => lCons r26 fun a28 r29 => dBool a28 fun b30 => lCons r29 fun a31 r32 => dInt .i64 a31 fun n33 => lCons r32 fun a34 r35 => dInt .u64 a34 fun n36 => lCons r35 fun a37 r38 => dAgg a37 fun y39 => lCons r38 fun a40 r41 => dInt .i64 a40 fun n42 => lCons r41 fun a43 r44 => dAgg a43 fun y45 => lCons y45 fun a46 r47 => dInt .i64 a46 fun n48 => lCons r47 fun a49 r50 => dInt .i64 a49 fun n51 => lCons r50 fun a52 r53 => dBool a52 fun b54 => lNil r53 (lCons r44 fun a55 r56 => dSlice a55 fun c57 l58 => lNil r56 (bif isSp (D.agg [D.str s14, D.str s15, D.int .u64 n16]) then (bif ahB s20 n27 (D.agg [D.str s14, D.str s15, D.int .u64 n16]) then (lab (todoAt (Γ mx) 16 9) ⟨[(5, .ptr 0 [] 62), (6, .ptr 1 [] 43), (11, .ptr 2 [] 69), (13, .ptr 4 [] 59), (14, .i .i64 (IntKind.wrap .i64 (n1 - 1))), (27, .sl 59 c2 l3), (28, .i .i64 n4), (29, .i .i64 n5)], [some (.box 62 (.d 62 (D.agg [D.str s6, D.slice c7 l8, D.int .i64 n9, D.int .i64 n10, D.int .i64 n11, D.int .i64 n12, D.bool b13]))), some (.box 43 (.d 43 (D.agg [D.str s14, D.str s15, D.int .u64 n16]))), some (.box 69 (.agg 69 [.ref 54 3, .i .i64 n17, .b b18])), some (.arr 54 l19 false), some (.box 59 (.d 59 (D.agg [D.str s20, D.slice c21 l22])))]⟩) else (bif fC (D.agg [D.str s6, D.slice c7 l8, D.int .i64 n9, D.int .i64 n10, D.int .i64 n11, D.int .i64 n12, D.bool b13]) && vC (D.agg [D.int .u64 n27, D.bool b30, D.int .i64 n33, D.int .u64 n36, D.agg y39, D.int .i64 n42, D.agg [D.int .i64 n48, D.int .i64 n51, D.bool b54], D.slice c57 l58]) then (bif !(wnB (D.agg [D.str s6, D.slice c7 l8, D.int .i64 n9, D.int .i64 n10, D.int .i64 n11, D.int .i64 n12, D.bool b13]) (D.agg [D.int .u64 n27, D.bool b30, D.int .i64 n33, D.int .u64 n36, D.agg y39, D.int .i64 n42, D.agg [D.int .i64 n48, D.int .i64 n51, D.bool b54], D.slice c57 l58]) (n1 == (IntKind.wrap .i64 (((l22.length : Int)) - 1)))) then (lab (todoAt (Γ mx) 16 9) ⟨[(5, .ptr 0 [] 62), (6, .ptr 1 [] 43), (11, .ptr 2 [] 69), (13, .ptr 4 [] 59), (14, .i .i64 (IntKind.wrap .i64 (n1 - 1))), (27, .sl 59 c2 l3), (28, .i .i64 n4), (29, .i .i64 n5)], [some (.box 62 (.d 62 (D.agg [D.str s6, D.slice c7 l8, D.int .i64 n9, D.int .i64 n10, D.int .i64 n11, D.int .i64 n12, D.bool b13]))), some (.box 43 (.d 43 (D.agg [D.str s14, D.str s15, D.int .u64 n16]))), some (.box 69 (.agg 69 [.ref 54 3, .i .i64 n17, .b b18])), some (.arr 54 l19 false), some (.box 59 (.d 59 (D.agg [D.str s20, D.slice c21 l22])))]⟩) else (bif vC (D.agg [D.int .u64 n27, D.bool b30, D.int .i64 n33, D.int .u64 n36, D.agg y39, D.int .i64 n42, D.agg [D.int .i64 n48, D.int .i64 n51, D.bool b54], D.slice c57 l58]) then (bif roomB (List.length l19 + 1) 152 then (bif !(!((List.length l19 : Int) == n17)) then (some (.tuple [.sl 54 .any (bif ((List.length l19 : Int) == n17) then l19 else l19 ++ [D.agg [D.str s20, D.bool false, D.agg [D.int .u64 n27, D.bool b30, D.int .i64 n33, D.int .u64 n36, D.agg y39, D.int .i64 n42, D.agg [D.int .i64 n48, D.int .i64 n51, D.bool b54], D.slice .cl l58], D.bool (n1 == (IntKind.wrap .i64 (((l22.length : Int)) - 1)))]]), .b (b18 || ((List.length l19 : Int) == n17)), .i .i64 0], [])) else (lab (todoAt (Γ mx) 16 9) ⟨[(5, .ptr 0 [] 62), (6, .ptr 1 [] 43), (11, .ptr 2 [] 69), (13, .ptr 4 [] 59), (14, .i .i64 (IntKind.wrap .i64 (n1 - 1))), (27, .sl 59 c2 l3), (28, .i .i64 n4), (29, .i .i64 n5)], [some (.box 62 (.d 62 (D.agg [D.str s6, D.slice c7 l8, D.int .i64 n9, D.int .i64 n10, D.int .i64 n11, D.int .i64 n12, D.bool b13]))), some (.box 43 (.d 43 (D.agg [D.str s14, D.str s15, D.int .u64 n16]))), some (.box 69 (.agg 69 [.ref 54 3, .i .i64 n17, .b (b18 || ((List.length l19 : Int) == n17))])), some (.arr 54 (bif ((List.length l19 : Int) == n17) then l19 else l19 ++ [D.agg [D.str s20, D.bool false, D.agg [D.int .u64 n27, D.bool b30, D.int .i64 n33, D.int .u64 n36, D.agg y39, D.int .i64 n42, D.agg [D.int .i64 n48, D.int .i64 n51, D.bool b54], D.slice .cl l58], D.bool (n1 == (IntKind.wrap .i64 (((l22.length : Int)) - 1)))]]) false), some (.box 59 (.d 59 (D.agg [D.str s20, D.slice c21 l22])))]⟩)) else none) else none)) else none)) else none))) else (lab (todoAt (Γ mx) 16 5) ⟨[(5, .ptr 0 [] 62), (6, .ptr 1 [] 43), (11, .ptr 2 [] 69), (27, .sl 59 c2 l3), (28, .i .i64 n4), (29, .i .i64 (IntKind.wrap .i64 (n5 + 1)))], [some (.box 62 (.d 62 (D.agg [D.str s6, D.slice c7 l8, D.int .i64 n9, D.int .i64 n10, D.int .i64 n11, D.int .i64 n12, D.bool b13]))), some (.box 43 (.d 43 (D.agg [D.str s14, D.str s15, D.int .u64 n16]))), some (.box 69 (.agg 69 [.ref 54 3, .i .i64 n17, .b b18])), some (.arr 54 l19 false)]⟩) := by kernel_rfl
theorem w16_5b (lab : Lab) (c1 : Cp) (l2 : List D) (n3 : Int) (n4 : Int) (s5 : List UInt8) (c6 : Cp) (l7 : List D) (n8 : Int) (n9 : Int) (n10 : Int) (n11 : Int) (b12 : Bool) (s13 : List UInt8) (s14 : List UInt8) (n15 : Int) (n16 : Int) (b17 : Bool) (l18 : List D) : evL (Γ mx) W16 lab 16 5 ⟨[(5, .ptr 0 [] 62), (6, .ptr 1 [] 43), (11, .ptr 2 [] 69), (27, .sl 59 c1 l2), (28, .i .i64 n3), (29, .i .i64 n4)], [some (.box 62 (.d 62 (D.agg [D.str s5, D.slice c6 l7, D.int .i64 n8, D.int .i64 n9, D.int .i64 n10, D.int .i64 n11, D.bool b12]))), some (.box 43 (.d 43 (D.agg [D.str s13, D.str s14, D.int .u64 n15]))), some (.box 69 (.agg 69 [.ref 54 3, .i .i64 n16, .b b17])), some (.arr 54 l18 false)]⟩ =
  bif decide (n4 < n3) then (idx l2 n4 fun y19 => dAgg y19 fun y20 => lCons y20 fun a21 r22 => dStr a21 fun s23 => lCons r22 fun a24 r25 => dSlice a24 fun c26 l27 => lNil r25 (bif !(hpB s23 s5) then (lab (todoAt (Γ mx) 16 5) ⟨[(5, .ptr 0 [] 62), (6, .ptr 1 [] 43), (11, .ptr 2 [] 69), (27, .sl 59 c1 l2), (28, .i .i64 n3), (29, .i .i64 (IntKind.wrap .i64 (n4 + 1)))], [some (.box 62 (.d 62 (D.agg [D.str s5, D.slice c6 l7, D.int .i64 n8, D.int .i64 n9, D.int .i64 n10, D.int .i64 n11, D.bool b12]))), some (.box 43 (.d 43 (D.agg [D.str s13, D.str s14, D.int .u64 n15]))), some (.box 69 (.agg 69 [.ref 54 3, .i .i64 n16, .b b17])), some (.arr 54 l18 false)]⟩) else (lab (todoAt (Γ mx) 16 9) ⟨[(5, .ptr 0 [] 62), (6, .ptr 1 [] 43), (11, .ptr 2 [] 69), (13, .ptr 4 [] 59), (14, .i .i64 (IntKind.wrap .i64 (((l27.length : Int)) - 1))), (27, .sl 59 c1 l2), (28, .i .i64 n3), (29, .i .i64 n4)], [some (.box 62 (.d 62 (D.agg [D.str s5, D.slice c6 l7, D.int .i64 n8, D.int .i64 n9, D.int .i64 n10, D.int .i64 n11, D.bool b12]))), some (.box 43 (.d 43 (D.agg [D.str s13, D.str s14, D.int .u64 n15]))), some (.box 69 (.agg 69 [.ref 54 3, .i .i64 n16, .b b17])), some (.arr 54 l18 false), some (.box 59 (.d 59 (D.agg [D.str s23, D.slice c26 l27])))]⟩))) else (some (.tuple [.sl 54 .any l18, .b b17, .i .i64 0], [])) := by kernel_rfl
end Go.Proofs.Ytapaenfafjmljaa.V

/- Lists: what the machine over values makes of functions (7,): equations, written by program. -/
namespace Go.Proofs.Ytapaenfafjmljaa.V
open Go
set_option maxRecDepth 100000
set_option linter.unusedVariables false
set_option linter.unusedSimpArgs false
variable {mx : Int}
noncomputable def W7 (mx : Int) : Handle := runS [⟨9, dat (sp0 true (.b true))⟩, ⟨8, dat (spD1 24 stC fun s => .tuple [.d 32 (firD mx s), .b (firB mx s)])⟩, ⟨16, dat spFi⟩, ⟨14, dat (spVy rowVR)⟩, ⟨17, dat (spLL 82 82 (fun a b => tC a && tC b) fun a b => .b (withinB a b))⟩, ⟨12, dat (spLL 54 54 (fun a b => rwC a && rwC b) fun a b => .b (rowsS a b))⟩]
theorem w7 (lab : Lab) (sm : Int) (sn : Int) (sb : Int) (sc : Cp) (sl : List D) (fp : List UInt8) (fc : Cp) (ft : List D) (ff : Int) (fo : Int) (fl : Int) (fm : Int) (fb : Bool) (pb : List UInt8) (pk : List UInt8) (pi : Int) (n : Int) : evF (Γ mx) (W7 mx) lab 7 [.d 24 (D.agg [D.int .i64 sm, D.int .u64 sn, D.int .u64 sb, D.slice sc sl]), .d 62 (D.agg [D.str fp, D.slice fc ft, D.int .i64 ff, D.int .i64 fo, D.int .i64 fl, D.int .i64 fm, D.bool fb]), .d 43 (D.agg [D.str pb, D.str pk, D.int .u64 pi]), .i .i64 n] [] =
  bif stC (D.agg [D.int .i64 sm, D.int .u64 sn, D.int .u64 sb, D.slice sc sl]) then (dAgg ((firD mx (D.agg [D.int .i64 sm, D.int .u64 sn, D.int .u64 sb, D.slice sc sl]))) fun y1 => lCons y1 fun a2 r3 => dStr a2 fun s4 => lCons r3 fun a5 r6 => dAgg a5 fun y7 => lCons y7 fun a8 r9 => dInt .i64 a8 fun n10 => lCons r9 fun a11 r12 => dInt .i64 a11 fun n13 => lNil r12 (lCons r6 fun a14 r15 => dSlice a14 fun c16 l17 => lCons r15 fun a18 r19 => dSlice a18 fun c20 l21 => lCons r19 fun a22 r23 => dSlice a22 fun c24 l25 => lCons r23 fun a26 r27 => dSlice a26 fun c28 l29 => lNil r27 (bif !(firB mx (D.agg [D.int .i64 sm, D.int .u64 sn, D.int .u64 sb, D.slice sc sl])) then (some (.b true, [])) else (bif bkS (D.agg [D.str s4, D.agg [D.int .i64 n10, D.int .i64 n13], D.slice c16 l17, D.slice c20 l21, D.slice c24 l25, D.slice c28 l29]) && (fC (D.agg [D.str fp, D.slice fc ft, D.int .i64 ff, D.int .i64 fo, D.int .i64 fl, D.int .i64 fm, D.bool fb]) && isSp (D.agg [D.str pb, D.str pk, D.int .u64 pi])) then (bif decide (n < 1) then (bif (pgE n) == 1 then (bif ((((fyA (fRows (D.agg [D.str s4, D.agg [D.int .i64 n10, D.int .i64 n13], D.slice c16 l17, D.slice c20 l21, D.slice c24 l25, D.slice c28 l29]) (D.agg [D.str fp, D.slice fc ft, D.int .i64 ff, D.int .i64 fo, D.int .i64 fl, D.int .i64 fm, D.bool fb]) (D.agg [D.str pb, D.str pk, D.int .u64 pi])) rowVP n)).length : Int)) == 0 then (some (.b (!(fyN (fRows (D.agg [D.str s4, D.agg [D.int .i64 n10, D.int .i64 n13], D.slice c16 l17, D.slice c20 l21, D.slice c24 l25, D.slice c28 l29]) (D.agg [D.str fp, D.slice fc ft, D.int .i64 ff, D.int .i64 fo, D.int .i64 fl, D.int .i64 fm, D.bool fb]) (D.agg [D.str pb, D.str pk, D.int .u64 pi])) n)), [])) else (some (.b false, []))) else (some (.b false, []))) else (bif decide (n > 100) then (bif (pgE n) == 1 then (bif ((((fyA (fRows (D.agg [D.str s4, D.agg [D.int .i64 n10, D.int .i64 n13], D.slice c16 l17, D.slice c20 l21, D.slice c24 l25, D.slice c28 l29]) (D.agg [D.str fp, D.slice fc ft, D.int .i64 ff, D.int .i64 fo, D.int .i64 fl, D.int .i64 fm, D.bool fb]) (D.agg [D.str pb, D.str pk, D.int .u64 pi])) rowVP n)).length : Int)) == 0 then (some (.b (!(fyN (fRows (D.agg [D.str s4, D.agg [D.int .i64 n10, D.int .i64 n13], D.slice c16 l17, D.slice c20 l21, D.slice c24 l25, D.slice c28 l29]) (D.agg [D.str fp, D.slice fc ft, D.int .i64 ff, D.int .i64 fo, D.int .i64 fl, D.int .i64 fm, D.bool fb]) (D.agg [D.str pb, D.str pk, D.int .u64 pi])) n)), [])) else (some (.b false, []))) else (some (.b false, []))) else (lab (todoAt (Γ mx) 7 9) ⟨[(3, .i .i64 n), (5, .ptr 0 [] 62), (6, .ptr 1 [] 43), (9, .ptr 2 [] 32), (11, .sl 54 .any ((fyA (fRows (D.agg [D.str s4, D.agg [D.int .i64 n10, D.int .i64 n13], D.slice c16 l17, D.slice c20 l21, D.slice c24 l25, D.slice c28 l29]) (D.agg [D.str fp, D.slice fc ft, D.int .i64 ff, D.int .i64 fo, D.int .i64 fl, D.int .i64 fm, D.bool fb]) (D.agg [D.str pb, D.str pk, D.int .u64 pi])) rowVP n))), (12, .b (fyN (fRows (D.agg [D.str s4, D.agg [D.int .i64 n10, D.int .i64 n13], D.slice c16 l17, D.slice c20 l21, D.slice c24 l25, D.slice c28 l29]) (D.agg [D.str fp, D.slice fc ft, D.int .i64 ff, D.int .i64 fo, D.int .i64 fl, D.int .i64 fm, D.bool fb]) (D.agg [D.str pb, D.str pk, D.int .u64 pi])) n)), (13, .i .i64 (pgE n)), (14, .ref 54 3), (15, .i .i64 0)], [some (.box 62 (.d 62 (D.agg [D.str fp, D.slice fc ft, D.int .i64 ff, D.int .i64 fo, D.int .i64 fl, D.int .i64 fm, D.bool fb]))), some (.box 43 (.d 43 (D.agg [D.str pb, D.str pk, D.int .u64 pi]))), some (.box 32 (.d 32 (D.agg [D.str s4, D.agg [D.int .i64 n10, D.int .i64 n13], D.slice c16 l17, D.slice c20 l21, D.slice c24 l25, D.slice c28 l29]))), some (.arr 54 [] false)]⟩))) else none)))) else none := by kernel_rfl
theorem w7_9a (lab : Lab) (n1 : Int) (l2 : List D) (b3 : Bool) (n4 : Int) (n5 : Int) (s6 : List UInt8) (c7 : Cp) (l8 : List D) (n9 : Int) (n10 : Int) (n11 : Int) (n12 : Int) (b13 : Bool) (s14 : List UInt8) (s15 : List UInt8) (n16 : Int) (s17 : List UInt8) (n18 : Int) (n19 : Int) (c20 : Cp) (l21 : List D) (c22 : Cp) (l23 : List D) (c24 : Cp) (l25 : List D) (c26 : Cp) (l27 : List D) (l28 : List D) : evL (Γ mx) (W7 mx) lab 7 9 ⟨[(3, .i .i64 n1), (5, .ptr 0 [] 62), (6, .ptr 1 [] 43), (9, .ptr 2 [] 32), (11, .sl 54 .any l2), (12, .b b3), (13, .i .i64 n4), (14, .ref 54 3), (15, .i .i64 n5)], [some (.box 62 (.d 62 (D.agg [D.str s6, D.slice c7 l8, D.int .i64 n9, D.int .i64 n10, D.int .i64 n11, D.int .i64 n12, D.bool b13]))), some (.box 43 (.d 43 (D.agg [D.str s14, D.str s15, D.int .u64 n16]))), some (.box 32 (.d 32 (D.agg [D.str s17, D.agg [D.int .i64 n18, D.int .i64 n19], D.slice c20 l21, D.slice c22 l23, D.slice c24 l25, D.slice c26 l27]))), some (.arr 54 l28 false)]⟩ =
  bif decide (n5 < ((l25.length : Int))) then (bif decide ((0:Int) ≤ (IntKind.wrap .i64 (n5 + 1))) && decide ((IntKind.wrap .i64 (n5 + 1)) ≤ (l25.length : Int)) then (bif decide ((0:Int) ≤ n5) && decide (n5 ≤ (Int.toNat (IntKind.wrap .i64 (n5 + 1)) : Int)) then (idx l25 n5 fun y29 => dAgg y29 fun y30 => lGet y30 1 fun y31 => dSlice y31 fun c32 l33 => lab (todoAt (Γ mx) 7 13) ⟨[(3, .i .i64 n1), (5, .ptr 0 [] 62), (6, .ptr 1 [] 43), (9, .ptr 2 [] 32), (11, .sl 54 .any l2), (12, .b b3), (13, .i .i64 n4), (14, .ref 54 3), (15, .i .i64 n5), (16, .ptr 4 [] 32), (17, .i .i64 (IntKind.wrap .i64 (((l33.length : Int)) - 1)))], [some (.box 62 (.d 62 (D.agg [D.str s6, D.slice c7 l8, D.int .i64 n9, D.int .i64 n10, D.int .i64 n11, D.int .i64 n12, D.bool b13]))), some (.box 43 (.d 43 (D.agg [D.str s14, D.str s15, D.int .u64 n16]))), some (.box 32 (.d 32 (D.agg [D.str s17, D.agg [D.int .i64 n18, D.int .i64 n19], D.slice c20 l21, D.slice c22 l23, D.slice c24 l25, D.slice c26 l27]))), some (.arr 54 l28 false), some (.box 32 (.d 32 (D.agg [D.str s17, D.agg [D.int .i64 0, D.int .i64 0], D.slice .nl [], D.slice .nl [], D.slice .any (List.take ((Int.toNat (IntKind.wrap .i64 (n5 + 1))) - (Int.toNat n5)) (List.drop (Int.toNat n5) l25)), D.slice .nl []])))]⟩) else none) else none) else (bif decide (((l28.length : Int)) > n1) then (bif n4 == 0 then (bif b3 then (bif decide ((0:Int) ≤ n1) && decide (n1 ≤ (l28.length : Int)) then (bif rwC l2 && rwC ((List.take ((Int.toNat n1) - 0) (List.drop 0 l28))) then (some (.b (rowsS l2 ((List.take ((Int.toNat n1) - 0) (List.drop 0 l28)))), [])) else none) else none) else (some (.b false, []))) else (some (.b false, []))) else (bif n4 == 0 then (bif !b3 then (bif rwC l2 && rwC l28 then (some (.b (rowsS l2 l28), [])) else none) else (some (.b false, []))) else (some (.b false, [])))) := by kernel_rfl
theorem w7_13a (lab : Lab) (n1 : Int) (l2 : List D) (b3 : Bool) (n4 : Int) (n5 : Int) (n6 : Int) (s7 : List UInt8) (c8 : Cp) (l9 : List D) (n10 : Int) (n11 : Int) (n12 : Int) (n13 : Int) (b14 : Bool) (s15 : List UInt8) (s16 : List UInt8) (n17 : Int) (s18 : List UInt8) (n19 : Int) (n20 : Int) (c21 : Cp) (l22 : List D) (c23 : Cp) (l24 : List D) (c25 : Cp) (l26 : List D) (c27 : Cp) (l28 : List D) (l29 : List D) (s30 : List UInt8) (n31 : Int) (n32 : Int) (l33 : List D) : evL (Γ mx) (W7 mx) lab 7 13 ⟨[(3, .i .i64 n1), (5, .ptr 0 [] 62), (6, .ptr 1 [] 43), (9, .ptr 2 [] 32), (11, .sl 54 .any l2), (12, .b b3), (13, .i .i64 n4), (14, .ref 54 3), (15, .i .i64 n5), (16, .ptr 4 [] 32), (17, .i .i64 n6)], [some (.box 62 (.d 62 (D.agg [D.str s7, D.slice c8 l9, D.int .i64 n10, D.int .i64 n11, D.int .i64 n12, D.int .i64 n13, D.bool b14]))), some (.box 43 (.d 43 (D.agg [D.str s15, D.str s16, D.int .u64 n17]))), some (.box 32 (.d 32 (D.agg [D.str s18, D.agg [D.int .i64 n19, D.int .i64 n20], D.slice c21 l22, D.slice c23 l24, D.slice c25 l26, D.slice c27 l28]))), some (.arr 54 l29 false), some (.box 32 (.d 32 (D.agg [D.str s30, D.agg [D.int .i64 n31, D.int .i64 n32], D.slice .nl [], D.slice .nl [], D.slice .any l33, D.slice .nl []])))]⟩ =
  bif decide (n6 ≥ 0) then (idx l26 n5 fun y34 => dAgg y34 fun y35 => lCons y35 fun a36 r37 => dStr a36 fun s38 => lCons r37 fun a39 r40 => dSlice a39 fun c41 l42 => lNil r40 (bif decide ((0:Int) ≤ (IntKind.wrap .i64 (n6 + 1))) && decide ((IntKind.wrap .i64 (n6 + 1)) ≤ (l42.length : Int)) then (bif decide ((0:Int) ≤ n6) && decide (n6 ≤ (Int.toNat (IntKind.wrap .i64 (n6 + 1)) : Int)) then (bif bkS (D.agg [D.str s30, D.agg [D.int .i64 n31, D.int .i64 n32], D.slice .nl [], D.slice .nl [], D.slice .ex [D.agg [D.str s38, D.slice .any (List.take ((Int.toNat (IntKind.wrap .i64 (n6 + 1))) - (Int.toNat n6)) (List.drop (Int.toNat n6) l42))]], D.slice .nl []]) && isSp (D.agg [D.str s15, D.str s16, D.int .u64 n17]) then (bif ((((vyL rowVR (D.agg [D.str s30, D.agg [D.int .i64 n31, D.int .i64 n32], D.slice .nl [], D.slice .nl [], D.slice .ex [D.agg [D.str s38, D.slice .any (List.take ((Int.toNat (IntKind.wrap .i64 (n6 + 1))) - (Int.toNat n6)) (List.drop (Int.toNat n6) l42))]], D.slice .nl []]) s7 (D.agg [D.str s15, D.str s16, D.int .u64 n17]) 9)).length : Int)) != 1 then (lab (todoAt (Γ mx) 7 13) ⟨[(3, .i .i64 n1), (5, .ptr 0 [] 62), (6, .ptr 1 [] 43), (9, .ptr 2 [] 32), (11, .sl 54 .any l2), (12, .b b3), (13, .i .i64 n4), (14, .ref 54 3), (15, .i .i64 n5), (16, .ptr 4 [] 32), (17, .i .i64 (IntKind.wrap .i64 (n6 - 1)))], [some (.box 62 (.d 62 (D.agg [D.str s7, D.slice c8 l9, D.int .i64 n10, D.int .i64 n11, D.int .i64 n12, D.int .i64 n13, D.bool b14]))), some (.box 43 (.d 43 (D.agg [D.str s15, D.str s16, D.int .u64 n17]))), some (.box 32 (.d 32 (D.agg [D.str s18, D.agg [D.int .i64 n19, D.int .i64 n20], D.slice c21 l22, D.slice c23 l24, D.slice c25 l26, D.slice c27 l28]))), some (.arr 54 l29 false), some (.box 32 (.d 32 (D.agg [D.str s30, D.agg [D.int .i64 n31, D.int .i64 n32], D.slice .nl [], D.slice .nl [], D.slice .ex [D.agg [D.str s38, D.slice .any (List.take ((Int.toNat (IntKind.wrap .i64 (n6 + 1))) - (Int.toNat n6)) (List.drop (Int.toNat n6) l42))]], D.slice .nl []])))]⟩) else (idx ((vyL rowVR (D.agg [D.str s30, D.agg [D.int .i64 n31, D.int .i64 n32], D.slice .nl [], D.slice .nl [], D.slice .ex [D.agg [D.str s38, D.slice .any (List.take ((Int.toNat (IntKind.wrap .i64 (n6 + 1))) - (Int.toNat n6)) (List.drop (Int.toNat n6) l42))]], D.slice .nl []]) s7 (D.agg [D.str s15, D.str s16, D.int .u64 n17]) 9)) 0 fun y43 => dAgg y43 fun y44 => lCons y44 fun a45 r46 => dStr a45 fun s47 => lCons r46 fun a48 r49 => dBool a48 fun b50 => lCons r49 fun a51 r52 => dAgg a51 fun y53 => lCons y53 fun a54 r55 => dInt .u64 a54 fun n56 => lCons r55 fun a57 r58 => dBool a57 fun b59 => lCons r58 fun a60 r61 => dInt .i64 a60 fun n62 => lCons r61 fun a63 r64 => dInt .u64 a63 fun n65 => lCons r64 fun a66 r67 => dAgg a66 fun y68 => lCons r67 fun a69 r70 => dInt .i64 a69 fun n71 => lCons r70 fun a72 r73 => dAgg a72 fun y74 => lCons y74 fun a75 r76 => dInt .i64 a75 fun n77 => lCons r76 fun a78 r79 => dInt .i64 a78 fun n80 => lCons r79 fun a81 r82 => dBool a81 fun b83 => lNil r82 (lCons r73 fun a84 r85 => dSlice a84 fun c86 l87 => lNil r85 (lCons r52 fun a88 r89 => dBool a88 fun b90 => lNil r89 (idx l26 n5 fun y91 => dAgg y91 fun y92 => lGet y92 1 fun y93 => dSlice y93 fun c94 l95 => bif !b59 then (bif decide (n71 ≥ n10) then (bif decide (n71 ≤ n11) then (bif decide (n62 ≥ n12) then (bif decide (n62 ≤ n13) then (bif tC l9 && tC l87 then (bif withinB l9 l87 then (bif n6 == (IntKind.wrap .i64 (((l95.length : Int)) - 1)) then (bif roomB (l29.length + 1) 152 then (lab (todoAt (Γ mx) 7 13) ⟨[(3, .i .i64 n1), (5, .ptr 0 [] 62), (6, .ptr 1 [] 43), (9, .ptr 2 [] 32), (11, .sl 54 .any l2), (12, .b b3), (13, .i .i64 n4), (14, .ref 54 3), (15, .i .i64 n5), (16, .ptr 4 [] 32), (17, .i .i64 (IntKind.wrap .i64 (n6 - 1)))], [some (.box 62 (.d 62 (D.agg [D.str s7, D.slice c8 l9, D.int .i64 n10, D.int .i64 n11, D.int .i64 n12, D.int .i64 n13, D.bool b14]))), some (.box 43 (.d 43 (D.agg [D.str s15, D.str s16, D.int .u64 n17]))), some (.box 32 (.d 32 (D.agg [D.str s18, D.agg [D.int .i64 n19, D.int .i64 n20], D.slice c21 l22, D.slice c23 l24, D.slice c25 l26, D.slice c27 l28]))), some (.arr 54 (l29 ++ [D.agg [D.str s47, D.bool b50, D.agg [D.int .u64 n56, D.bool b59, D.int .i64 n62, D.int .u64 n65, D.agg y68, D.int .i64 n71, D.agg [D.int .i64 n77, D.int .i64 n80, D.bool b83], D.slice c86 l87], D.bool (n6 == (IntKind.wrap .i64 (((l95.length : Int)) - 1)))]]) false), some (.box 32 (.d 32 (D.agg [D.str s30, D.agg [D.int .i64 n31, D.int .i64 n32], D.slice .nl [], D.slice .nl [], D.slice .ex [D.agg [D.str s38, D.slice .any (List.take ((Int.toNat (IntKind.wrap .i64 (n6 + 1))) - (Int.toNat n6)) (List.drop (Int.toNat n6) l42))]], D.slice .nl []])))]⟩) else none) else (bif !b14 then (bif roomB (l29.length + 1) 152 then (lab (todoAt (Γ mx) 7 13) ⟨[(3, .i .i64 n1), (5, .ptr 0 [] 62), (6, .ptr 1 [] 43), (9, .ptr 2 [] 32), (11, .sl 54 .any l2), (12, .b b3), (13, .i .i64 n4), (14, .ref 54 3), (15, .i .i64 n5), (16, .ptr 4 [] 32), (17, .i .i64 (IntKind.wrap .i64 (n6 - 1)))], [some (.box 62 (.d 62 (D.agg [D.str s7, D.slice c8 l9, D.int .i64 n10, D.int .i64 n11, D.int .i64 n12, D.int .i64 n13, D.bool b14]))), some (.box 43 (.d 43 (D.agg [D.str s15, D.str s16, D.int .u64 n17]))), some (.box 32 (.d 32 (D.agg [D.str s18, D.agg [D.int .i64 n19, D.int .i64 n20], D.slice c21 l22, D.slice c23 l24, D.slice c25 l26, D.slice c27 l28]))), some (.arr 54 (l29 ++ [D.agg [D.str s47, D.bool b50, D.agg [D.int .u64 n56, D.bool b59, D.int .i64 n62, D.int .u64 n65, D.agg y68, D.int .i64 n71, D.agg [D.int .i64 n77, D.int .i64 n80, D.bool b83], D.slice c86 l87], D.bool (n6 == (IntKind.wrap .i64 (((l95.length : Int)) - 1)))]]) false), some (.box 32 (.d 32 (D.agg [D.str s30, D.agg [D.int .i64 n31, D.int .i64 n32], D.slice .nl [], D.slice .nl [], D.slice .ex [D.agg [D.str s38, D.slice .any (List.take ((Int.toNat (IntKind.wrap .i64 (n6 + 1))) - (Int.toNat n6)) (List.drop (Int.toNat n6) l42))]], D.slice .nl []])))]⟩) else none) else (lab (todoAt (Γ mx) 7 13) ⟨[(3, .i .i64 n1), (5, .ptr 0 [] 62), (6, .ptr 1 [] 43), (9, .ptr 2 [] 32), (11, .sl 54 .any l2), (12, .b b3), (13, .i .i64 n4), (14, .ref 54 3), (15, .i .i64 n5), (16, .ptr 4 [] 32), (17, .i .i64 (IntKind.wrap .i64 (n6 - 1)))], [some (.box 62 (.d 62 (D.agg [D.str s7, D.slice c8 l9, D.int .i64 n10, D.int .i64 n11, D.int .i64 n12, D.int .i64 n13, D.bool b14]))), some (.box 43 (.d 43 (D.agg [D.str s15, D.str s16, D.int .u64 n17]))), some (.box 32 (.d 32 (D.agg [D.str s18, D.agg [D.int .i64 n19, D.int .i64 n20], D.slice c21 l22, D.slice c23 l24, D.slice c25 l26, D.slice c27 l28]))), some (.arr 54 l29 false), some (.box 32 (.d 32 (D.agg [D.str s30, D.agg [D.int .i64 n31, D.int .i64 n32], D.slice .nl [], D.slice .nl [], D.slice .ex [D.agg [D.str s38, D.slice .any (List.take ((Int.toNat (IntKind.wrap .i64 (n6 + 1))) - (Int.toNat n6)) (List.drop (Int.toNat n6) l42))]], D.slice .nl []])))]⟩))) else (lab (todoAt (Γ mx) 7 13) ⟨[(3, .i .i64 n1), (5, .ptr 0 [] 62), (6, .ptr 1 [] 43), (9, .ptr 2 [] 32), (11, .sl 54 .any l2), (12, .b b3), (13, .i .i64 n4), (14, .ref 54 3), (15, .i .i64 n5), (16, .ptr 4 [] 32), (17, .i .i64 (IntKind.wrap .i64 (n6 - 1)))], [some (.box 62 (.d 62 (D.agg [D.str s7, D.slice c8 l9, D.int .i64 n10, D.int .i64 n11, D.int .i64 n12, D.int .i64 n13, D.bool b14]))), some (.box 43 (.d 43 (D.agg [D.str s15, D.str s16, D.int .u64 n17]))), some (.box 32 (.d 32 (D.agg [D.str s18, D.agg [D.int .i64 n19, D.int .i64 n20], D.slice c21 l22, D.slice c23 l24, D.slice c25 l26, D.slice c27 l28]))), some (.arr 54 l29 false), some (.box 32 (.d 32 (D.agg [D.str s30, D.agg [D.int .i64 n31, D.int .i64 n32], D.slice .nl [], D.slice .nl [], D.slice .ex [D.agg [D.str s38, D.slice .any (List.take ((Int.toNat (IntKind.wrap .i64 (n6 + 1))) - (Int.toNat n6)) (List.drop (Int.toNat n6) l42))]], D.slice .nl []])))]⟩)) else none) else (lab (todoAt (Γ mx) 7 13) ⟨[(3, .i .i64 n1), (5, .ptr 0 [] 62), (6, .ptr 1 [] 43), (9, .ptr 2 [] 32), (11, .sl 54 .any l2), (12, .b b3), (13, .i .i64 n4), (14, .ref 54 3), (15, .i .i64 n5), (16, .ptr 4 [] 32), (17, .i .i64 (IntKind.wrap .i64 (n6 - 1)))], [some (.box 62 (.d 62 (D.agg [D.str s7, D.slice c8 l9, D.int .i64 n10, D.int .i64 n11, D.int .i64 n12, D.int .i64 n13, D.bool b14]))), some (.box 43 (.d 43 (D.agg [D.str s15, D.str s16, D.int .u64 n17]))), some (.box 32 (.d 32 (D.agg [D.str s18, D.agg [D.int .i64 n19, D.int .i64 n20], D.slice c21 l22, D.slice c23 l24, D.slice c25 l26, D.slice c27 l28]))), some (.arr 54 l29 false), some (.box 32 (.d 32 (D.agg [D.str s30, D.agg [D.int .i64 n31, D.int .i64 n32], D.slice .nl [], D.slice .nl [], D.slice .ex [D.agg [D.str s38, D.slice .any (List.take ((Int.toNat (IntKind.wrap .i64 (n6 + 1))) - (Int.toNat n6)) (List.drop (Int.toNat n6) l42))]], D.slice .nl []])))]⟩)) else (lab (todoAt (Γ mx) 7 13) ⟨[(3, .i .i64 n1), (5, .ptr 0 [] 62), (6, .ptr 1 [] 43), (9, .ptr 2 [] 32), (11, .sl 54 .any l2), (12, .b b3), (13, .i .i64 n4), (14, .ref 54 3), (15, .i .i64 n5), (16, .ptr 4 [] 32), (17, .i .i64 (IntKind.wrap .i64 (n6 - 1)))], [some (.box 62 (.d 62 (D.agg [D.str s7, D.slice c8 l9, D.int .i64 n10, D.int .i64 n11, D.int .i64 n12, D.int .i64 n13, D.bool b14]))), some (.box 43 (.d 43 (D.agg [D.str s15, D.str s16, D.int .u64 n17]))), some (.box 32 (.d 32 (D.agg [D.str s18, D.agg [D.int .i64 n19, D.int .i64 n20], D.slice c21 l22, D.slice c23 l24, D.slice c25 l26, D.slice c27 l28]))), some (.arr 54 l29 false), some (.box 32 (.d 32 (D.agg [D.str s30, D.agg [D.int .i64 n31, D.int .i64 n32], D.slice .nl [], D.slice .nl [], D.slice .ex [D.agg [D.str s38, D.slice .any (List.take ((Int.toNat (IntKind.wrap .i64 (n6 + 1))) - (Int.toNat n6)) (List.drop (Int.toNat n6) l42))]], D.slice .nl []])))]⟩)) else (lab (todoAt (Γ mx) 7 13) ⟨[(3, .i .i64 n1), (5, .ptr 0 [] 62), (6, .ptr 1 [] 43), (9, .ptr 2 [] 32), (11, .sl 54 .any l2), (12, .b b3), (13, .i .i64 n4), (14, .ref 54 3), (15, .i .i64 n5), (16, .ptr 4 [] 32), (17, .i .i64 (IntKind.wrap .i64 (n6 - 1)))], [some (.box 62 (.d 62 (D.agg [D.str s7, D.slice c8 l9, D.int .i64 n10, D.int .i64 n11, D.int .i64 n12, D.int .i64 n13, D.bool b14]))), some (.box 43 (.d 43 (D.agg [D.str s15, D.str s16, D.int .u64 n17]))), some (.box 32 (.d 32 (D.agg [D.str s18, D.agg [D.int .i64 n19, D.int .i64 n20], D.slice c21 l22, D.slice c23 l24, D.slice c25 l26, D.slice c27 l28]))), some (.arr 54 l29 false), some (.box 32 (.d 32 (D.agg [D.str s30, D.agg [D.int .i64 n31, D.int .i64 n32], D.slice .nl [], D.slice .nl [], D.slice .ex [D.agg [D.str s38, D.slice .any (List.take ((Int.toNat (IntKind.wrap .i64 (n6 + 1))) - (Int.toNat n6)) (List.drop (Int.toNat n6) l42))]], D.slice .nl []])))]⟩)) else (lab (todoAt (Γ mx) 7 13) ⟨[(3, .i .i64 n1), (5, .ptr 0 [] 62), (6, .ptr 1 [] 43), (9, .ptr 2 [] 32), (11, .sl 54 .any l2), (12, .b b3), (13, .i .i64 n4), (14, .ref 54 3), (15, .i .i64 n5), (16, .ptr 4 [] 32), (17, .i .i64 (IntKind.wrap .i64 (n6 - 1)))], [some (.box 62 (.d 62 (D.agg [D.str s7, D.slice c8 l9, D.int .i64 n10, D.int .i64 n11, D.int .i64 n12, D.int .i64 n13, D.bool b14]))), some (.box 43 (.d 43 (D.agg [D.str s15, D.str s16, D.int .u64 n17]))), some (.box 32 (.d 32 (D.agg [D.str s18, D.agg [D.int .i64 n19, D.int .i64 n20], D.slice c21 l22, D.slice c23 l24, D.slice c25 l26, D.slice c27 l28]))), some (.arr 54 l29 false), some (.box 32 (.d 32 (D.agg [D.str s30, D.agg [D.int .i64 n31, D.int .i64 n32], D.slice .nl [], D.slice .nl [], D.slice .ex [D.agg [D.str s38, D.slice .any (List.take ((Int.toNat (IntKind.wrap .i64 (n6 + 1))) - (Int.toNat n6)) (List.drop (Int.toNat n6) l42))]], D.slice .nl []])))]⟩)) else (lab (todoAt (Γ mx) 7 13) ⟨[(3, .i .i64 n1), (5, .ptr 0 [] 62), (6, .ptr 1 [] 43), (9, .ptr 2 [] 32), (11, .sl 54 .any l2), (12, .b b3), (13, .i .i64 n4), (14, .ref 54 3), (15, .i .i64 n5), (16, .ptr 4 [] 32), (17, .i .i64 (IntKind.wrap .i64 (n6 - 1)))], [some (.box 62 (.d 62 (D.agg [D.str s7, D.slice c8 l9, D.int .i64 n10, D.int .i64 n11, D.int .i64 n12, D.int .i64 n13, D.bool b14]))), some (.box 43 (.d 43 (D.agg [D.str s15, D.str s16, D.int .u64 n17]))), some (.box 32 (.d 32 (D.agg [D.str s18, D.agg [D.int .i64 n19, D.int .i64 n20], D.slice c21 l22, D.slice c23 l24, D.slice c25 l26, D.slice c27 l28]))), some (.arr 54 l29 false), some (.box 32 (.d 32 (D.agg [D.str s30, D.agg [D.int .i64 n31, D.int .i64 n32], D.slice .nl [], D.slice .nl [], D.slice .ex [D.agg [D.str s38, D.slice .any (List.take ((Int.toNat (IntKind.wrap .i64 (n6 + 1))) - (Int.toNat n6)) (List.drop (Int.toNat n6) l42))]], D.slice .nl []])))]⟩)))))) else none) else none) else none)) else (lab (todoAt (Γ mx) 7 9) ⟨[(3, .i .i64 n1), (5, .ptr 0 [] 62), (6, .ptr 1 [] 43), (9, .ptr 2 [] 32), (11, .sl 54 .any l2), (12, .b b3), (13, .i .i64 n4), (14, .ref 54 3), (15, .i .i64 (IntKind.wrap .i64 (n5 + 1)))], [some (.box 62 (.d 62 (D.agg [D.str s7, D.slice c8 l9, D.int .i64 n10, D.int .i64 n11, D.int .i64 n12, D.int .i64 n13, D.bool b14]))), some (.box 43 (.d 43 (D.agg [D.str s15, D.str s16, D.int .u64 n17]))), some (.box 32 (.d 32 (D.agg [D.str s18, D.agg [D.int .i64 n19, D.int .i64 n20], D.slice c21 l22, D.slice c23 l24, D.slice c25 l26, D.slice c27 l28]))), some (.arr 54 l29 false)]⟩) := by kernel_rfl
theorem w7_13b (lab : Lab) (n1 : Int) (l2 : List D) (b3 : Bool) (n4 : Int) (n5 : Int) (n6 : Int) (s7 : List UInt8) (c8 : Cp) (l9 : List D) (n10 : Int) (n11 : Int) (n12 : Int) (n13 : Int) (b14 : Bool) (s15 : List UInt8) (s16 : List UInt8) (n17 : Int) (s18 : List UInt8) (n19 : Int) (n20 : Int) (c21 : Cp) (l22 : List D) (c23 : Cp) (l24 : List D) (c25 : Cp) (l26 : List D) (c27 : Cp) (l28 : List D) (l29 : List D) (s30 : List UInt8) (n31 : Int) (n32 : Int) (l33 : List D) : evL (Γ mx) (W7 mx) lab 7 13 ⟨[(3, .i .i64 n1), (5, .ptr 0 [] 62), (6, .ptr 1 [] 43), (9, .ptr 2 [] 32), (11, .sl 54 .any l2), (12, .b b3), (13, .i .i64 n4), (14, .ref 54 3), (15, .i .i64 n5), (16, .ptr 4 [] 32), (17, .i .i64 n6)], [some (.box 62 (.d 62 (D.agg [D.str s7, D.slice c8 l9, D.int .i64 n10, D.int .i64 n11, D.int .i64 n12, D.int .i64 n13, D.bool b14]))), some (.box 43 (.d 43 (D.agg [D.str s15, D.str s16, D.int .u64 n17]))), some (.box 32 (.d 32 (D.agg [D.str s18, D.agg [D.int .i64 n19, D.int .i64 n20], D.slice c21 l22, D.slice c23 l24, D.slice c25 l26, D.slice c27 l28]))), some (.arr 54 l29 false), some (.box 32 (.d 32 (D.agg [D.str s30, D.agg [D.int .i64 n31, D.int .i64 n32], D.slice .nl [], D.slice .nl [], D.slice .ex l33, D.slice .nl []])))]⟩ =
  bif decide (n6 ≥ 0) then (idx l26 n5 fun y34 => dAgg y34 fun y35 => lCons y35 fun a36 r37 => dStr a36 fun s38 => lCons r37 fun a39 r40 => dSlice a39 fun c41 l42 => lNil r40 (bif decide ((0:Int) ≤ (IntKind.wrap .i64 (n6 + 1))) && decide ((IntKind.wrap .i64 (n6 + 1)) ≤ (l42.length : Int)) then (bif decide ((0:Int) ≤ n6) && decide (n6 ≤ (Int.toNat (IntKind.wrap .i64 (n6 + 1)) : Int)) then (bif bkS (D.agg [D.str s30, D.agg [D.int .i64 n31, D.int .i64 n32], D.slice .nl [], D.slice .nl [], D.slice .ex [D.agg [D.str s38, D.slice .any (List.take ((Int.toNat (IntKind.wrap .i64 (n6 + 1))) - (Int.toNat n6)) (List.drop (Int.toNat n6) l42))]], D.slice .nl []]) && isSp (D.agg [D.str s15, D.str s16, D.int .u64 n17]) then (bif ((((vyL rowVR (D.agg [D.str s30, D.agg [D.int .i64 n31, D.int .i64 n32], D.slice .nl [], D.slice .nl [], D.slice .ex [D.agg [D.str s38, D.slice .any (List.take ((Int.toNat (IntKind.wrap .i64 (n6 + 1))) - (Int.toNat n6)) (List.drop (Int.toNat n6) l42))]], D.slice .nl []]) s7 (D.agg [D.str s15, D.str s16, D.int .u64 n17]) 9)).length : Int)) != 1 then (lab (todoAt (Γ mx) 7 13) ⟨[(3, .i .i64 n1), (5, .ptr 0 [] 62), (6, .ptr 1 [] 43), (9, .ptr 2 [] 32), (11, .sl 54 .any l2), (12, .b b3), (13, .i .i64 n4), (14, .ref 54 3), (15, .i .i64 n5), (16, .ptr 4 [] 32), (17, .i .i64 (IntKind.wrap .i64 (n6 - 1)))], [some (.box 62 (.d 62 (D.agg [D.str s7, D.slice c8 l9, D.int .i64 n10, D.int .i64 n11, D.int .i64 n12, D.int .i64 n13, D.bool b14]))), some (.box 43 (.d 43 (D.agg [D.str s15, D.str s16, D.int .u64 n17]))), some (.box 32 (.d 32 (D.agg [D.str s18, D.agg [D.int .i64 n19, D.int .i64 n20], D.slice c21 l22, D.slice c23 l24, D.slice c25 l26, D.slice c27 l28]))), some (.arr 54 l29 false), some (.box 32 (.d 32 (D.agg [D.str s30, D.agg [D.int .i64 n31, D.int .i64 n32], D.slice .nl [], D.slice .nl [], D.slice .ex [D.agg [D.str s38, D.slice .any (List.take ((Int.toNat (IntKind.wrap .i64 (n6 + 1))) - (Int.toNat n6)) (List.drop (Int.toNat n6) l42))]], D.slice .nl []])))]⟩) else (idx ((vyL rowVR (D.agg [D.str s30, D.agg [D.int .i64 n31, D.int .i64 n32], D.slice .nl [], D.slice .nl [], D.slice .ex [D.agg [D.str s38, D.slice .any (List.take ((Int.toNat (IntKind.wrap .i64 (n6 + 1))) - (Int.toNat n6)) (List.drop (Int.toNat n6) l42))]], D.slice .nl []]) s7 (D.agg [D.str s15, D.str s16, D.int .u64 n17]) 9)) 0 fun y43 => dAgg y43 fun y44 => lCons y44 fun a45 r46 => dStr a45 fun s47 => lCons r46 fun a48 r49 => dBool a48 fun b50 => lCons r49 fun a51 r52 => dAgg a51 fun y53 => lCons y53 fun a54 r55 => dInt .u64 a54 fun n56 => lCons r55 fun a57 r58 => dBool a57 fun b59 => lCons r58 fun a60 r61 => dInt .i64 a60 fun n62 => lCons r61 fun a63 r64 => dInt .u64 a63 fun n65 => lCons r64 fun a66 r67 => dAgg a66 fun y68 => lCons r67 fun a69 r70 => dInt .i64 a69 fun n71 => lCons r70 fun a72 r73 => dAgg a72 fun y74 => lCons y74 fun a75 r76 => dInt .i64 a75 fun n77 => lCons r76 fun a78 r79 => dInt .i64 a78 fun n80 => lCons r79 fun a81 r82 => dBool a81 fun b83 => lNil r82 (lCons r73 fun a84 r85 => dSlice a84 fun c86 l87 => lNil r85 (lCons r52 fun a88 r89 => dBool a88 fun b90 => lNil r89 (idx l26 n5 fun y91 => dAgg y91 fun y92 => lGet y92 1 fun y93 => dSlice y93 fun c94 l95 => bif !b59 then (bif decide (n71 ≥ n10) then (bif decide (n71 ≤ n11) then (bif decide (n62 ≥ n12) then (bif decide (n62 ≤ n13) then (bif tC l9 && tC l87 then (bif withinB l9 l87 then (bif n6 == (IntKind.wrap .i64 (((l95.length : Int)) - 1)) then (bif roomB (l29.length + 1) 152 then (lab (todoAt (Γ mx) 7 13) ⟨[(3, .i .i64 n1), (5, .ptr 0 [] 62), (6, .ptr 1 [] 43), (9, .ptr 2 [] 32), (11, .sl 54 .any l2), (12, .b b3), (13, .i .i64 n4), (14, .ref 54 3), (15, .i .i64 n5), (16, .ptr 4 [] 32), (17, .i .i64 (IntKind.wrap .i64 (n6 - 1)))], [some (.box 62 (.d 62 (D.agg [D.str s7, D.slice c8 l9, D.int .i64 n10, D.int .i64 n11, D.int .i64 n12, D.int .i64 n13, D.bool b14]))), some (.box 43 (.d 43 (D.agg [D.str s15, D.str s16, D.int .u64 n17]))), some (.box 32 (.d 32 (D.agg [D.str s18, D.agg [D.int .i64 n19, D.int .i64 n20], D.slice c21 l22, D.slice c23 l24, D.slice c25 l26, D.slice c27 l28]))), some (.arr 54 (l29 ++ [D.agg [D.str s47, D.bool b50, D.agg [D.int .u64 n56, D.bool b59, D.int .i64 n62, D.int .u64 n65, D.agg y68, D.int .i64 n71, D.agg [D.int .i64 n77, D.int .i64 n80, D.bool b83], D.slice c86 l87], D.bool (n6 == (IntKind.wrap .i64 (((l95.length : Int)) - 1)))]]) false), some (.box 32 (.d 32 (D.agg [D.str s30, D.agg [D.int .i64 n31, D.int .i64 n32], D.slice .nl [], D.slice .nl [], D.slice .ex [D.agg [D.str s38, D.slice .any (List.take ((Int.toNat (IntKind.wrap .i64 (n6 + 1))) - (Int.toNat n6)) (List.drop (Int.toNat n6) l42))]], D.slice .nl []])))]⟩) else none) else (bif !b14 then (bif roomB (l29.length + 1) 152 then (lab (todoAt (Γ mx) 7 13) ⟨[(3, .i .i64 n1), (5, .ptr 0 [] 62), (6, .ptr 1 [] 43), (9, .ptr 2 [] 32), (11, .sl 54 .any l2), (12, .b b3), (13, .i .i64 n4), (14, .ref 54 3), (15, .i .i64 n5), (16, .ptr 4 [] 32), (17, .i .i64 (IntKind.wrap .i64 (n6 - 1)))], [some (.box 62 (.d 62 (D.agg [D.str s7, D.slice c8 l9, D.int .i64 n10, D.int .i64 n11, D.int .i64 n12, D.int .i64 n13, D.bool b14]))), some (.box 43 (.d 43 (D.agg [D.str s15, D.str s16, D.int .u64 n17]))), some (.box 32 (.d 32 (D.agg [D.str s18, D.agg [D.int .i64 n19, D.int .i64 n20], D.slice c21 l22, D.slice c23 l24, D.slice c25 l26, D.slice c27 l28]))), some (.arr 54 (l29 ++ [D.agg [D.str s47, D.bool b50, D.agg [D.int .u64 n56, D.bool b59, D.int .i64 n62, D.int .u64 n65, D.agg y68, D.int .i64 n71, D.agg [D.int .i64 n77, D.int .i64 n80, D.bool b83], D.slice c86 l87], D.bool (n6 == (IntKind.wrap .i64 (((l95.length : Int)) - 1)))]]) false), some (.box 32 (.d 32 (D.agg [D.str s30, D.agg [D.int .i64 n31, D.int .i64 n32], D.slice .nl [], D.slice .nl [], D.slice .ex [D.agg [D.str s38, D.slice .any (List.take ((Int.toNat (IntKind.wrap .i64 (n6 + 1))) - (Int.toNat n6)) (List.drop (Int.toNat n6) l42))]], D.slice .nl []])))]⟩) else none) else (lab (todoAt (Γ mx) 7 13) ⟨[(3, .i .i64 n1), (5, .ptr 0 [] 62), (6, .ptr 1 [] 43), (9, .ptr 2 [] 32), (11, .sl 54 .any l2), (12, .b b3), (13, .i .i64 n4), (14, .ref 54 3), (15, .i .i64 n5), (16, .ptr 4 [] 32), (17, .i .i64 (IntKind.wrap .i64 (n6 - 1)))], [some (.box 62 (.d 62 (D.agg [D.str s7, D.slice c8 l9, D.int .i64 n10, D.int .i64 n11, D.int .i64 n12, D.int .i64 n13, D.bool b14]))), some (.box 43 (.d 43 (D.agg [D.str s15, D.str s16, D.int .u64 n17]))), some (.box 32 (.d 32 (D.agg [D.str s18, D.agg [D.int .i64 n19, D.int .i64 n20], D.slice c21 l22, D.slice c23 l24, D.slice c25 l26, D.slice c27 l28]))), some (.arr 54 l29 false), some (.box 32 (.d 32 (D.agg [D.str s30, D.agg [D.int .i64 n31, D.int .i64 n32], D.slice .nl [], D.slice .nl [], D.slice .ex [D.agg [D.str s38, D.slice .any (List.take ((Int.toNat (IntKind.wrap .i64 (n6 + 1))) - (Int.toNat n6)) (List.drop (Int.toNat n6) l42))]], D.slice .nl []])))]⟩))) else (lab (todoAt (Γ mx) 7 13) ⟨[(3, .i .i64 n1), (5, .ptr 0 [] 62), (6, .ptr 1 [] 43), (9, .ptr 2 [] 32), (11, .sl 54 .any l2), (12, .b b3), (13, .i .i64 n4), (14, .ref 54 3), (15, .i .i64 n5), (16, .ptr 4 [] 32), (17, .i .i64 (IntKind.wrap .i64 (n6 - 1)))], [some (.box 62 (.d 62 (D.agg [D.str s7, D.slice c8 l9, D.int .i64 n10, D.int .i64 n11, D.int .i64 n12, D.int .i64 n13, D.bool b14]))), some (.box 43 (.d 43 (D.agg [D.str s15, D.str s16, D.int .u64 n17]))), some (.box 32 (.d 32 (D.agg [D.str s18, D.agg [D.int .i64 n19, D.int .i64 n20], D.slice c21 l22, D.slice c23 l24, D.slice c25 l26, D.slice c27 l28]))), some (.arr 54 l29 false), some (.box 32 (.d 32 (D.agg [D.str s30, D.agg [D.int .i64 n31, D.int .i64 n32], D.slice .nl [], D.slice .nl [], D.slice .ex [D.agg [D.str s38, D.slice .any (List.take ((Int.toNat (IntKind.wrap .i64 (n6 + 1))) - (Int.toNat n6)) (List.drop (Int.toNat n6) l42))]], D.slice .nl []])))]⟩)) else none) else (lab (todoAt (Γ mx) 7 13) ⟨[(3, .i .i64 n1), (5, .ptr 0 [] 62), (6, .ptr 1 [] 43), (9, .ptr 2 [] 32), (11, .sl 54 .any l2), (12, .b b3), (13, .i .i64 n4), (14, .ref 54 3), (15, .i .i64 n5), (16, .ptr 4 [] 32), (17, .i .i64 (IntKind.wrap .i64 (n6 - 1)))], [some (.box 62 (.d 62 (D.agg [D.str s7, D.slice c8 l9, D.int .i64 n10, D.int .i64 n11, D.int .i64 n12, D.int .i64 n13, D.bool b14]))), some (.box 43 (.d 43 (D.agg [D.str s15, D.str s16, D.int .u64 n17]))), some (.box 32 (.d 32 (D.agg [D.str s18, D.agg [D.int .i64 n19, D.int .i64 n20], D.slice c21 l22, D.slice c23 l24, D.slice c25 l26, D.slice c27 l28]))), some (.arr 54 l29 false), some (.box 32 (.d 32 (D.agg [D.str s30, D.agg [D.int .i64 n31, D.int .i64 n32], D.slice .nl [], D.slice .nl [], D.slice .ex [D.agg [D.str s38, D.slice .any (List.take ((Int.toNat (IntKind.wrap .i64 (n6 + 1))) - (Int.toNat n6)) (List.drop (Int.toNat n6) l42))]], D.slice .nl []])))]⟩)) else (lab (todoAt (Γ mx) 7 13) ⟨[(3, .i .i64 n1), (5, .ptr 0 [] 62), (6, .ptr 1 [] 43), (9, .ptr 2 [] 32), (11, .sl 54 .any l2), (12, .b b3), (13, .i .i64 n4), (14, .ref 54 3), (15, .i .i64 n5), (16, .ptr 4 [] 32), (17, .i .i64 (IntKind.wrap .i64 (n6 - 1)))], [some (.box 62 (.d 62 (D.agg [D.str s7, D.slice c8 l9, D.int .i64 n10, D.int .i64 n11, D.int .i64 n12, D.int .i64 n13, D.bool b14]))), some (.box 43 (.d 43 (D.agg [D.str s15, D.str s16, D.int .u64 n17]))), some (.box 32 (.d 32 (D.agg [D.str s18, D.agg [D.int .i64 n19, D.int .i64 n20], D.slice c21 l22, D.slice c23 l24, D.slice c25 l26, D.slice c27 l28]))), some (.arr 54 l29 false), some (.box 32 (.d 32 (D.agg [D.str s30, D.agg [D.int .i64 n31, D.int .i64 n32], D.slice .nl [], D.slice .nl [], D.slice .ex [D.agg [D.str s38, D.slice .any (List.take ((Int.toNat (IntKind.wrap .i64 (n6 + 1))) - (Int.toNat n6)) (List.drop (Int.toNat n6) l42))]], D.slice .nl []])))]⟩)) else (lab (todoAt (Γ mx) 7 13) ⟨[(3, .i .i64 n1), (5, .ptr 0 [] 62), (6, .ptr 1 [] 43), (9, .ptr 2 [] 32), (11, .sl 54 .any l2), (12, .b b3), (13, .i .i64 n4), (14, .ref 54 3), (15, .i .i64 n5), (16, .ptr 4 [] 32), (17, .i .i64 (IntKind.wrap .i64 (n6 - 1)))], [some (.box 62 (.d 62 (D.agg [D.str s7, D.slice c8 l9, D.int .i64 n10, D.int .i64 n11, D.int .i64 n12, D.int .i64 n13, D.bool b14]))), some (.box 43 (.d 43 (D.agg [D.str s15, D.str s16, D.int .u64 n17]))), some (.box 32 (.d 32 (D.agg [D.str s18, D.agg [D.int .i64 n19, D.int .i64 n20], D.slice c21 l22, D.slice c23 l24, D.slice c25 l26, D.slice c27 l28]))), some (.arr 54 l29 false), some (.box 32 (.d 32 (D.agg [D.str s30, D.agg [D.int .i64 n31, D.int .i64 n32], D.slice .nl [], D.slice .nl [], D.slice .ex [D.agg [D.str s38, D.slice .any (List.take ((Int.toNat (IntKind.wrap .i64 (n6 + 1))) - (Int.toNat n6)) (List.drop (Int.toNat n6) l42))]], D.slice .nl []])))]⟩)) else (lab (todoAt (Γ mx) 7 13) ⟨[(3, .i .i64 n1), (5, .ptr 0 [] 62), (6, .ptr 1 [] 43), (9, .ptr 2 [] 32), (11, .sl 54 .any l2), (12, .b b3), (13, .i .i64 n4), (14, .ref 54 3), (15, .i .i64 n5), (16, .ptr 4 [] 32), (17, .i .i64 (IntKind.wrap .i64 (n6 - 1)))], [some (.box 62 (.d 62 (D.agg [D.str s7, D.slice c8 l9, D.int .i64 n10, D.int .i64 n11, D.int .i64 n12, D.int .i64 n13, D.bool b14]))), some (.box 43 (.d 43 (D.agg [D.str s15, D.str s16, D.int .u64 n17]))), some (.box 32 (.d 32 (D.agg [D.str s18, D.agg [D.int .i64 n19, D.int .i64 n20], D.slice c21 l22, D.slice c23 l24, D.slice c25 l26, D.slice c27 l28]))), some (.arr 54 l29 false), some (.box 32 (.d 32 (D.agg [D.str s30, D.agg [D.int .i64 n31, D.int .i64 n32], D.slice .nl [], D.slice .nl [], D.slice .ex [D.agg [D.str s38, D.slice .any (List.take ((Int.toNat (IntKind.wrap .i64 (n6 + 1))) - (Int.toNat n6)) (List.drop (Int.toNat n6) l42))]], D.slice .nl []])))]⟩)) else (lab (todoAt (Γ mx) 7 13) ⟨[(3, .i .i64 n1), (5, .ptr 0 [] 62), (6, .ptr 1 [] 43), (9, .ptr 2 [] 32), (11, .sl 54 .any l2), (12, .b b3), (13, .i .i64 n4), (14, .ref 54 3), (15, .i .i64 n5), (16, .ptr 4 [] 32), (17, .i .i64 (IntKind.wrap .i64 (n6 - 1)))], [some (.box 62 (.d 62 (D.agg [D.str s7, D.slice c8 l9, D.int .i64 n10, D.int .i64 n11, D.int .i64 n12, D.int .i64 n13, D.bool b14]))), some (.box 43 (.d 43 (D.agg [D.str s15, D.str s16, D.int .u64 n17]))), some (.box 32 (.d 32 (D.agg [D.str s18, D.agg [D.int .i64 n19, D.int .i64 n20], D.slice c21 l22, D.slice c23 l24, D.slice c25 l26, D.slice c27 l28]))), some (.arr 54 l29 false), some (.box 32 (.d 32 (D.agg [D.str s30, D.agg [D.int .i64 n31, D.int .i64 n32], D.slice .nl [], D.slice .nl [], D.slice .ex [D.agg [D.str s38, D.slice .any (List.take ((Int.toNat (IntKind.wrap .i64 (n6 + 1))) - (Int.toNat n6)) (List.drop (Int.toNat n6) l42))]], D.slice .nl []])))]⟩)))))) else none) else none) else none)) else (lab (todoAt (Γ mx) 7 9) ⟨[(3, .i .i64 n1), (5, .ptr 0 [] 62), (6, .ptr 1 [] 43), (9, .ptr 2 [] 32), (11, .sl 54 .any l2), (12, .b b3), (13, .i .i64 n4), (14, .ref 54 3), (15, .i .i64 (IntKind.wrap .i64 (n5 + 1)))], [some (.box 62 (.d 62 (D.agg [D.str s7, D.slice c8 l9, D.int .i64 n10, D.int .i64 n11, D.int .i64 n12, D.int .i64 n13, D.bool b14]))), some (.box 43 (.d 43 (D.agg [D.str s15, D.str s16, D.int .u64 n17]))), some (.box 32 (.d 32 (D.agg [D.str s18, D.agg [D.int .i64 n19, D.int .i64 n20], D.slice c21 l22, D.slice c23 l24, D.slice c25 l26, D.slice c27 l28]))), some (.arr 54 l29 false)]⟩) := by kernel_rfl
end Go.Proofs.Ytapaenfafjmljaa.V

/- Lists: list.Find: its contract. -/
namespace Go.Proofs.Ytapaenfafjmljaa.V
open Go
set_option maxRecDepth 100000
set_option linter.unusedVariables false
set_option linter.unusedSimpArgs false
variable {mx : Int}
/-! ### ahead; wanted -/
theorem spAh_ok : SpecOK (Γ mx) ⟨27, dat spAh⟩ := dat_ok fun args r hr => by
  unfold spAh at hr
  split at hr
  · rename_i k i s
    simp only [Option.some.injEq, Prod.mk.injEq] at hr
    obtain ⟨h1, rfl⟩ := hr
    obtain ⟨sb, sk, si, rfl⟩ := isSp_ex h1
    refine ret_goes (Γ := Γ mx) hP hZ none_ok (by kernel_rfl) ⟨0, ?_⟩
    rw [w27]
    show _ = some (AV.b (!(sk == []) && (lessB k sk || (k == sk && decide (i ≥ si)))), [])
    cases sk == [] <;> cases lessB k sk <;> cases k == sk <;> rfl
  · exact absurd hr (by simp)
theorem W28_ok : CallsOK (Γ mx) W28 := specs_ok (.cons (spLL_ok c30) .nil)
theorem wn_tree {A Z : Option (AV × Objs)} {mr fb l c1 c2 c3 c4 t w : Bool} (ht : t = true) (hA : A = some (.b false, [])) (hZ : Z = some (.b w, [])) :
    (bif mr then (bif mr then A else (bif c1 then (bif c1 then A else (bif t then Z else none)) else (bif c2 then (bif c2 then A else (bif t then Z else none)) else (bif c3 then (bif c3 then A else (bif t then Z else none)) else (bif c4 then A else (bif t then Z else none)))))) else (bif fb then (bif !l then A else (bif c1 then (bif c1 then A else (bif t then Z else none)) else (bif c2 then (bif c2 then A else (bif t then Z else none)) else (bif c3 then (bif c3 then A else (bif t then Z else none)) else (bif c4 then A else (bif t then Z else none)))))) else (bif c1 then (bif c1 then A else (bif t then Z else none)) else (bif c2 then (bif c2 then A else (bif t then Z else none)) else (bif c3 then (bif c3 then A else (bif t then Z else none)) else (bif c4 then A else (bif t then Z else none)))))))
    = some (.b (!mr && (!c1 && (!c2 && (!c3 && (!c4 && (w && (l || !fb))))))), []) := by
  subst ht hA hZ
  cases mr <;> cases fb <;> cases l <;> cases c1 <;> cases c2 <;> cases c3 <;> cases c4 <;> simp
theorem fC_ex {f : D} (h : fC f = true) : ∃ fp fc ft ff fo fl fm fb, f = D.agg [D.str fp, D.slice fc ft, D.int .i64 ff, D.int .i64 fo, D.int .i64 fl, D.int .i64 fm, D.bool fb] ∧ tC ft = true := by
  unfold fC at h
  split at h
  · exact ⟨_, _, _, _, _, _, _, _, rfl, h⟩
  · exact absurd h (by simp)
theorem spWn_ok : SpecOK (Γ mx) ⟨28, dat spWn⟩ := dat_ok fun args r hr => by
  unfold spWn at hr
  split at hr
  · rename_i f v l
    simp only [Option.some.injEq, Prod.mk.injEq, Bool.and_eq_true] at hr
    obtain ⟨⟨h1, h2⟩, rfl⟩ := hr
    obtain ⟨fp, fc, ft, ff, fo, fl, fm, fb, rfl, hft⟩ := fC_ex h1
    obtain ⟨w, rfl, h3⟩ := vC_ex h2
    have htg : (tC ft && tC w.tg) = true := by rw [hft, (Bool.and_eq_true_iff.1 (show (tC w.tg && (dgC w.dg && decide (0 ≤ w.id))) = true from h2)).1]; rfl
    refine ret_goes (Γ := Γ mx) hP hZ W28_ok (by kernel_rfl) ⟨0, ?_⟩
    refine (w28 _ fp fc ft ff fo fl fm fb w.id w.mr w.sz w.bl w.dg w.cr w.md w.un w.ho w.c w.tg l).trans ?_
    refine (wn_tree (w := withinB ft w.tg) htg rfl rfl).trans ?_
    show _ = some (AV.b (wnV ft ff fo fl fm fb w l), [])
    unfold wnV
    rw [show (!decide (w.cr < ff)) = decide (w.cr ≥ ff) from by rw [← decide_not]; exact decide_eq_decide.2 (by omega), show (!decide (w.cr > fo)) = decide (w.cr ≤ fo) from by rw [← decide_not]; exact decide_eq_decide.2 (by omega),
      show (!decide (w.sz < fl)) = decide (w.sz ≥ fl) from by rw [← decide_not]; exact decide_eq_decide.2 (by omega), show (!decide (w.sz > fm)) = decide (w.sz ≤ fm) from by rw [← decide_not]; exact decide_eq_decide.2 (by omega)]
  · exact absurd hr (by simp)
theorem ah_keep (k sk : Tx) (i si : Int) : (!(sk == []) && (lessB k sk || (k == sk && decide (i ≥ si)))) = !keepR sk si k i := by
  rw [← keep_eq]
  unfold keepP
  cases h : sk == [] with
  | true => rw [eq_of_beq h, lessB_nil]; rfl
  | false => simp
theorem W16_ok : CallsOK (Γ mx) W16 := specs_ok (.cons (sp2_ok c95) (.cons spRow_ok (.cons xAdd_ok (.cons spAh_ok (.cons spWn_ok .nil)))))
/-! ### states -/
def x5S (f s : D) (c : Cp) (os : List D) (n i : Int) : List D → St
  | [] => ⟨[(5, .ptr 0 [] 62), (6, .ptr 1 [] 43), (11, .ptr 2 [] 69), (27, .sl 59 c os), (28, .i .i64 ((os.length : Int))), (29, .i .i64 i)], [some (.box 62 (.d 62 f)), some (.box 43 (.d 43 s)), some (.box 69 (.d 69 (D.agg [D.slice .nl [], D.int .i64 n, D.bool false])))]⟩
  | x :: l => ⟨[(5, .ptr 0 [] 62), (6, .ptr 1 [] 43), (11, .ptr 2 [] 69), (27, .sl 59 c os), (28, .i .i64 ((os.length : Int))), (29, .i .i64 i)], [some (.box 62 (.d 62 f)), some (.box 43 (.d 43 s)), some (.box 69 (.agg 69 [.ref 54 3, .i .i64 n, .b false])), some (.arr 54 (x :: l) false)]⟩
def x9S (f s : D) (c : Cp) (os : List D) (n i : Int) (o : D) (j : Int) : List D → St
  | [] => ⟨[(5, .ptr 0 [] 62), (6, .ptr 1 [] 43), (11, .ptr 2 [] 69), (13, .ptr 3 [] 59), (14, .i .i64 j), (27, .sl 59 c os), (28, .i .i64 ((os.length : Int))), (29, .i .i64 i)], [some (.box 62 (.d 62 f)), some (.box 43 (.d 43 s)), some (.box 69 (.d 69 (D.agg [D.slice .nl [], D.int .i64 n, D.bool false]))), some (.box 59 (.d 59 o))]⟩
  | x :: l => ⟨[(5, .ptr 0 [] 62), (6, .ptr 1 [] 43), (11, .ptr 2 [] 69), (13, .ptr 4 [] 59), (14, .i .i64 j), (27, .sl 59 c os), (28, .i .i64 ((os.length : Int))), (29, .i .i64 i)], [some (.box 62 (.d 62 f)), some (.box 43 (.d 43 s)), some (.box 69 (.agg 69 [.ref 54 3, .i .i64 n, .b false])), some (.arr 54 (x :: l) false), some (.box 59 (.d 59 o))]⟩
section
variable {fp : Tx} {fc : Cp} {ft : List D} {ff fo fl fm : Int} {fb : Bool} {sb sk : Tx} {si : Int} {c : Cp} {os : List D} {n : Int}
theorem g16_9 {i : Int} {ok : Tx} {oc : Cp} {vl : List Ver} {R : List D} (hn : 1 ≤ n) (hn2 : n ≤ 100) (hft : tC ft = true) (hi : 0 ≤ i) (hi2 : i ≤ 8388608) (hvl : vl.length ≤ 8388608) (hva : (vl.map vD).all vC = true)
    (hc : ∀ L : List D, L.length ≤ n.toNat → Goes (Γ mx) W16 16 5 (x5S (D.agg [D.str fp, D.slice fc ft, D.int .i64 ff, D.int .i64 fo, D.int .i64 fl, D.int .i64 fm, D.bool fb]) (D.agg [D.str sb, D.str sk, D.int .u64 si]) c os n (i + 1) L) (resV (addAll n.toNat L R))) :
    ∀ (m : Nat) (j : Int) (L : List D), m ≤ vl.length → j = (m : Int) - 1 → L.length ≤ n.toNat →
    Goes (Γ mx) W16 16 9 (x9S (D.agg [D.str fp, D.slice fc ft, D.int .i64 ff, D.int .i64 fo, D.int .i64 fl, D.int .i64 fm, D.bool fb]) (D.agg [D.str sb, D.str sk, D.int .u64 si]) c os n i (D.agg [D.str ok, D.slice oc (vl.map vD)]) j L) (resV (addAll n.toNat L ((((rowsAt ok vl m).filter fun r => keepR sk si r.1 r.2.1.id && wnV ft ff fo fl fm fb r.2.1 r.2.2).map rowVP) ++ R)))
  | 0, j, L, hm, hj, hL => by
    subst hj
    have w1 : IntKind.wrap .i64 (i + 1) = i + 1 := wrapI (by omega) (by omega)
    cases L with
    | nil =>
      refine Goes.er (er_of (fun k => w16_9a _ _ c os _ i fp fc ft ff fo fl fm fb sb sk si n false ok oc (vl.map vD)) ?_)
      rw [w1]
      exact er_f (decide_eq_false (by omega)) (er_lab (hc [] hL))
    | cons x l =>
      refine Goes.er (er_of (fun k => w16_9b _ _ c os _ i fp fc ft ff fo fl fm fb sb sk si n false (x :: l) ok oc (vl.map vD)) ?_)
      rw [w1]
      exact er_f (decide_eq_false (by omega)) (er_lab (hc (x :: l) hL))
  | m + 1, j, L, hm, hj, hL => by
    have hj' : j = (m : Int) := by omega
    subst hj'
    have hlt' : m < vl.length := by omega
    have hg : (vl.map vD)[((m : Nat) : Int).toNat]? = some (vD vl[m]) := by rw [Int.toNat_natCast, List.getElem?_map, List.getElem?_eq_getElem hlt']; rfl
    have hvC : vC (vD vl[m]) = true := List.all_eq_true.1 hva _ (List.mem_map.2 ⟨vl[m], List.getElem_mem hlt', rfl⟩)
    have hfv : (fC (D.agg [D.str fp, D.slice fc ft, D.int .i64 ff, D.int .i64 fo, D.int .i64 fl, D.int .i64 fm, D.bool fb]) && vC (vD vl[m])) = true := by rw [hvC, show fC (D.agg [D.str fp, D.slice fc ft, D.int .i64 ff, D.int .i64 fo, D.int .i64 fl, D.int .i64 fm, D.bool fb]) = tC ft from rfl, hft]; rfl
    have w1 : IntKind.wrap .i64 ((m : Int) - 1) = (m : Int) - 1 := wrapI (by omega) (by omega)
    have w2 : IntKind.wrap .i64 (((vl.map vD).length : Int) - 1) = (vl.length : Int) - 1 := by rw [List.length_map]; exact wrapI (by omega) (by omega)
    have hfl : ((m : Int) == (vl.length : Int) - 1) = decide (m + 1 = vl.length) := by
      by_cases h : m + 1 = vl.length
      · rw [decide_eq_true h]; simp; omega
      · rw [decide_eq_false h]; simp; omega
    have hra : rowsAt ok vl (m + 1) = (ok, vl[m], decide (m + 1 = vl.length)) :: rowsAt ok vl m := by rw [rowsAt, List.getElem?_eq_getElem hlt']
    have nx := fun L' hL' => g16_9 (ok := ok) (oc := oc) hn hn2 hft hi hi2 hvl hva hc m ((m : Int) - 1) L' (by omega) rfl hL'
    have hah : ahB ok vl[m].id (D.agg [D.str sb, D.str sk, D.int .u64 si]) = !keepR sk si ok vl[m].id := ah_keep ok sk vl[m].id si
    have neg : (keepR sk si ok vl[m].id && wnV ft ff fo fl fm fb vl[m] (decide (m + 1 = vl.length))) = false → (rowsAt ok vl (m + 1)).filter (fun r => keepR sk si r.1 r.2.1.id && wnV ft ff fo fl fm fb r.2.1 r.2.2) = (rowsAt ok vl m).filter (fun r => keepR sk si r.1 r.2.1.id && wnV ft ff fo fl fm fb r.2.1 r.2.2) := fun h => by
      rw [hra, List.filter_cons_of_neg (p := fun r : Vr Ver => keepR sk si r.1 r.2.1.id && wnV ft ff fo fl fm fb r.2.1 r.2.2) (a := (ok, vl[m], decide (m + 1 = vl.length)))]
      show ¬ ((keepR sk si ok vl[m].id && wnV ft ff fo fl fm fb vl[m] (decide (m + 1 = vl.length))) = true)
      rw [h]; simp
    have pos : (keepR sk si ok vl[m].id && wnV ft ff fo fl fm fb vl[m] (decide (m + 1 = vl.length))) = true → (rowsAt ok vl (m + 1)).filter (fun r => keepR sk si r.1 r.2.1.id && wnV ft ff fo fl fm fb r.2.1 r.2.2) = (ok, vl[m], decide (m + 1 = vl.length)) :: (rowsAt ok vl m).filter (fun r => keepR sk si r.1 r.2.1.id && wnV ft ff fo fl fm fb r.2.1 r.2.2) := fun h => by
      rw [hra, List.filter_cons_of_pos (p := fun r : Vr Ver => keepR sk si r.1 r.2.1.id && wnV ft ff fo fl fm fb r.2.1 r.2.2) (a := (ok, vl[m], decide (m + 1 = vl.length))) h]
    cases L with
    | nil =>
      refine Goes.er (er_of (fun k => w16_9a _ _ c os _ i fp fc ft ff fo fl fm fb sb sk si n false ok oc (vl.map vD)) ?_)
      rw [w1, w2, hfl]
      refine er_t (decide_eq_true (by omega)) (er_idx (by omega) hg (er_agg (er_lc (er_u (er_lc (er_b (er_lc (er_i (er_lc (er_u (er_lc (er_agg (er_lc (er_i (er_lc (er_agg (er_lc (er_i (er_lc (er_i (er_lc (er_b (er_ln (er_lc (er_sl (er_ln ?_))))))))))))))))))))))))))
      refine er_t rfl ?_
      cases hk : keepR sk si ok vl[m].id with
      | false =>
        refine er_t (by rw [hah, hk]; rfl) (er_lab ?_)
        rw [neg (by rw [hk]; rfl)]
        exact nx [] hL
      | true =>
        refine er_f (by rw [hah, hk]; rfl) (er_t hfv ?_)
        refine er_if (fun hw => ?_) (fun hw => ?_)
        · have hw : (!wnV ft ff fo fl fm fb vl[m] (decide (m + 1 = vl.length))) = true := hw
          rw [neg (by rw [hk, show wnV ft ff fo fl fm fb vl[m] (decide (m + 1 = vl.length)) = false by simpa using hw]; rfl)]
          exact er_lab (nx [] hL)
        · have hw : (!wnV ft ff fo fl fm fb vl[m] (decide (m + 1 = vl.length))) = false := hw
          rw [pos (by rw [hk, show wnV ft ff fo fl fm fb vl[m] (decide (m + 1 = vl.length)) = true by simpa using hw]; rfl), List.map_cons, List.cons_append]
          rw [addAll_room (by simp; omega)]
          exact er_t hvC (er_t (by simp; omega) (er_lab (nx [rowVP (ok, vl[m], decide (m + 1 = vl.length))] (by simp; omega))))
    | cons x l =>
      refine Goes.er (er_of (fun k => w16_9b _ _ c os _ i fp fc ft ff fo fl fm fb sb sk si n false (x :: l) ok oc (vl.map vD)) ?_)
      rw [w1, w2, hfl]
      refine er_t (decide_eq_true (by omega)) (er_idx (by omega) hg (er_agg (er_lc (er_u (er_lc (er_b (er_lc (er_i (er_lc (er_u (er_lc (er_agg (er_lc (er_i (er_lc (er_agg (er_lc (er_i (er_lc (er_i (er_lc (er_b (er_ln (er_lc (er_sl (er_ln ?_))))))))))))))))))))))))))
      refine er_t rfl ?_
      cases hk : keepR sk si ok vl[m].id with
      | false =>
        refine er_t (by rw [hah, hk]; rfl) (er_lab ?_)
        rw [neg (by rw [hk]; rfl)]
        exact nx (x :: l) hL
      | true =>
        refine er_f (by rw [hah, hk]; rfl) (er_t hfv ?_)
        refine er_if (fun hw => ?_) (fun hw => ?_)
        · have hw : (!wnV ft ff fo fl fm fb vl[m] (decide (m + 1 = vl.length))) = true := hw
          rw [neg (by rw [hk, show wnV ft ff fo fl fm fb vl[m] (decide (m + 1 = vl.length)) = false by simpa using hw]; rfl)]
          exact er_lab (nx (x :: l) hL)
        · have hw : (!wnV ft ff fo fl fm fb vl[m] (decide (m + 1 = vl.length))) = false := hw
          rw [pos (by rw [hk, show wnV ft ff fo fl fm fb vl[m] (decide (m + 1 = vl.length)) = true by simpa using hw]; rfl), List.map_cons, List.cons_append]
          by_cases hfull : (x :: l).length = n.toNat
          · have hb : (((x :: l).length : Int) == n) = true := by simp only [beq_iff_eq]; omega
            rw [addAll_full hfull, hb]
            exact er_t hvC (er_t (room152 (by omega)) (er_t rfl (er_is rfl)))
          · have hb : (((x :: l).length : Int) == n) = false := by rw [beq_eq_false_iff_ne]; omega
            rw [addAll_room hfull, hb]
            exact er_t hvC (er_t (room152 (by omega)) (er_f rfl (er_lab (nx (x :: l ++ [rowVP (ok, vl[m], decide (m + 1 = vl.length))]) (by simp at hL hfull ⊢; omega)))))
/-- the rows that are wanted of an object -/
def objF (p sk : Tx) (si : Int) (w : Ver → Bool → Bool) (o : D) : List (Vr Ver) := bif hpB (oKey o) p then (revRows (oKey o) (vsOf (oVs o))).filter (fun r => keepR sk si r.1 r.2.1.id && w r.2.1 r.2.2) else []
theorem g16_5 (hn : 1 ≤ n) (hn2 : n ≤ 100) (hft : tC ft = true) (hos : os.all oC = true) (hol : os.length ≤ 8388608) :
    ∀ (rest pre L : List D) (i : Int), os = pre ++ rest → i = (pre.length : Int) → L.length ≤ n.toNat →
    Goes (Γ mx) W16 16 5 (x5S (D.agg [D.str fp, D.slice fc ft, D.int .i64 ff, D.int .i64 fo, D.int .i64 fl, D.int .i64 fm, D.bool fb]) (D.agg [D.str sb, D.str sk, D.int .u64 si]) c os n i L) (resV (addAll n.toNat L ((rest.flatMap (objF fp sk si (wnV ft ff fo fl fm fb))).map rowVP)))
  | [], pre, L, i, he, hi, hL => by
    subst hi
    cases L with
    | nil =>
      refine Goes.er (er_of (fun k => w16_5a _ c os _ _ fp fc ft ff fo fl fm fb sb sk si n false) (er_f (decide_eq_false ?_) (er_is rfl)))
      rw [he]; simp
    | cons x l =>
      refine Goes.er (er_of (fun k => w16_5b _ c os _ _ fp fc ft ff fo fl fm fb sb sk si n false (x :: l)) (er_f (decide_eq_false ?_) (er_is rfl)))
      rw [he]; simp
  | y :: r, pre, L, i, he, hi, hL => by
    subst hi
    have hlen : os.length = pre.length + (r.length + 1) := by rw [he]; simp
    have hg : os[((pre.length : Nat) : Int).toNat]? = some y := by rw [he]; exact get_mid pre y r
    have w1 : IntKind.wrap .i64 ((pre.length : Int) + 1) = (pre.length : Int) + 1 := wrapI (by omega) (by omega)
    have nx := fun L' hL' => g16_5 hn hn2 hft hos hol r (pre ++ [y]) L' ((pre.length : Int) + 1) (by rw [he]; simp) (by simp) hL'
    obtain ⟨yk, yc, vs, hye, _, hvs⟩ := oC_ex (List.all_eq_true.1 hos y (by rw [he]; simp))
    obtain ⟨hvl, hva⟩ := vsC_eq hvs
    obtain ⟨vl, rfl, hvo⟩ := vs_ex hva
    subst hye
    rw [List.length_map] at hvl
    have w2 : IntKind.wrap .i64 (((vl.map vD).length : Int) - 1) = (vl.length : Int) - 1 := by rw [List.length_map]; exact wrapI (by omega) (by omega)
    have hor : objF fp sk si (wnV ft ff fo fl fm fb) (D.agg [D.str yk, D.slice yc (vl.map vD)]) = bif hpB yk fp then (revRows yk vl).filter (fun r => keepR sk si r.1 r.2.1.id && wnV ft ff fo fl fm fb r.2.1 r.2.2) else [] := by
      unfold objF
      rw [show oVs (D.agg [D.str yk, D.slice yc (vl.map vD)]) = vl.map vD from rfl, hvo]; rfl
    rw [List.flatMap_cons, hor]
    cases L with
    | nil =>
      refine Goes.er (er_of (fun k => w16_5a _ c os _ _ fp fc ft ff fo fl fm fb sb sk si n false) ?_)
      rw [w1]
      refine er_t (decide_eq_true (by omega)) (er_idx (by omega) hg (er_agg (er_lc (er_s (er_lc (er_sl (er_ln ?_)))))))
      rw [w2]
      refine er_if (fun hp => ?_) (fun hp => er_lab ?_)
      · rw [show hpB yk fp = false by simpa using hp]; exact er_lab (nx [] hL)
      · rw [show hpB yk fp = true by simpa using hp, cond_true, List.map_append, ← rowsAt_all]
        exact g16_9 hn hn2 hft (by omega) (by omega) hvl hva (fun L' hL' => nx L' hL') vl.length _ [] (Nat.le_refl _) rfl hL
    | cons x l =>
      refine Goes.er (er_of (fun k => w16_5b _ c os _ _ fp fc ft ff fo fl fm fb sb sk si n false (x :: l)) ?_)
      rw [w1]
      refine er_t (decide_eq_true (by omega)) (er_idx (by omega) hg (er_agg (er_lc (er_s (er_lc (er_sl (er_ln ?_)))))))
      rw [w2]
      refine er_if (fun hp => ?_) (fun hp => er_lab ?_)
      · rw [show hpB yk fp = false by simpa using hp]; exact er_lab (nx (x :: l) hL)
      · rw [show hpB yk fp = true by simpa using hp, cond_true, List.map_append, ← rowsAt_all]
        exact g16_9 hn hn2 hft (by omega) (by omega) hvl hva (fun L' hL' => nx L' hL') vl.length _ (x :: l) (Nat.le_refl _) rfl hL
end
/-- all rows that are wanted, by objects -/
theorem fRows_eq (b f : D) (sb sk : Tx) (si : Int) : fRows b f (D.agg [D.str sb, D.str sk, D.int .u64 si]) = (bObj b).flatMap (objF (fP f) sk si (fW f)) := by
  unfold fRows vRows rowsV
  rw [List.filter_flatMap, List.flatMap_map]
  congr 1
  funext o
  show (bif hpB (oKey o) (fP f) then (revRows (oKey o) (vsOf (oVs o))).filter (fun r => keepR sk si r.1 r.2.1.id) else []).filter (fun r => fW f r.2.1 r.2.2) = objF (fP f) sk si (fW f) o
  unfold objF
  cases hpB (oKey o) (fP f) with
  | false => rfl
  | true =>
    rw [cond_true, cond_true, List.filter_filter]
    congr 1
    funext r
    rw [Bool.and_comm]
theorem c16' (b f s : D) (n : Int) (hb : bkS b = true) (hf : fC f = true) (hs : isSp s = true) : RetX (Γ mx) 16 [.d 32 b, .d 62 f, .d 43 s, .i .i64 n] [] (.tuple [.sl 54 .any (fyA (fRows b f s) rowVP n), .b (fyN (fRows b f s) n), .i .i64 (pgE n)]) [] := by
  obtain ⟨hb, ht⟩ := bkS_eq hb
  obtain ⟨nm, md, dy, c1, rs, c2, gs, c3, os, c4, us, rfl, k1, k2, k3, k4, k5, k6⟩ := bkC_ex hb
  obtain ⟨fp, fc, ft, ff, fo, fl, fm, fb, rfl, hft⟩ := fC_ex hf
  obtain ⟨sb, sk, si, rfl⟩ := isSp_ex hs
  by_cases h1 : n < 1
  · have e := pgE_lo h1
    unfold fyA fyN
    rw [e]
    refine ret_nil (e := 54) (ret_goes (Γ := Γ mx) hP hZ W16_ok (by kernel_rfl) ⟨0, ?_⟩)
    rw [w16, decide_eq_true h1]; rfl
  · by_cases h2 : n > 100
    · have e := pgE_hi h2
      unfold fyA fyN
      rw [e]
      refine ret_nil (e := 54) (ret_goes (Γ := Γ mx) hP hZ W16_ok (by kernel_rfl) ⟨0, ?_⟩)
      rw [w16, decide_eq_false h1, decide_eq_true h2]; rfl
    · have e := pgE_ok (show 1 ≤ n by omega) (show n ≤ 100 by omega)
      obtain ⟨q, hq⟩ := g16_5 (mx := mx) (fp := fp) (fc := fc) (ft := ft) (ff := ff) (fo := fo) (fl := fl) (fm := fm) (fb := fb) (sb := sb) (sk := sk) (si := si) (c := c3) (os := os) (n := n) (by omega) (by omega) hft k4 k5 os [] [] 0 rfl rfl (by simp)
      have hr : (os.flatMap (objF fp sk si (wnV ft ff fo fl fm fb))) = fRows (D.agg [D.str nm, D.agg [D.int .i64 md, D.int .i64 dy], D.slice c1 rs, D.slice c2 gs, D.slice c3 os, D.slice c4 us]) (D.agg [D.str fp, D.slice fc ft, D.int .i64 ff, D.int .i64 fo, D.int .i64 fl, D.int .i64 fm, D.bool fb]) (D.agg [D.str sb, D.str sk, D.int .u64 si]) := (fRows_eq (D.agg [D.str nm, D.agg [D.int .i64 md, D.int .i64 dy], D.slice c1 rs, D.slice c2 gs, D.slice c3 os, D.slice c4 us]) (D.agg [D.str fp, D.slice fc ft, D.int .i64 ff, D.int .i64 fo, D.int .i64 fl, D.int .i64 fm, D.bool fb]) sb sk si).symm
      rw [hr, addAll_eq _ _ _ (by simp), List.nil_append] at hq
      unfold fyA fyN
      rw [e]
      generalize fRows (D.agg [D.str nm, D.agg [D.int .i64 md, D.int .i64 dy], D.slice c1 rs, D.slice c2 gs, D.slice c3 os, D.slice c4 us]) (D.agg [D.str fp, D.slice fc ft, D.int .i64 ff, D.int .i64 fo, D.int .i64 fl, D.int .i64 fm, D.bool fb]) (D.agg [D.str sb, D.str sk, D.int .u64 si]) = R at hq ⊢
      have hd : decide (n.toNat < (R.map rowVP).length) = decide (n < (R.length : Int)) := decide_eq_decide.2 (by rw [List.length_map]; omega)
      rw [hd, ← List.map_take, resV_ob] at hq
      refine ret_resV (x := ((R.take n.toNat).map rowVP, decide (n < (R.length : Int)))) (ret_goes (Γ := Γ mx) hP hZ W16_ok (by kernel_rfl) ⟨q, ?_⟩)
      rw [w16, decide_eq_false h1, decide_eq_false h2, cond_false, cond_false]
      exact hq
theorem spFi_ok : SpecOK (Γ mx) ⟨16, dat spFi⟩ := dat_ok fun args r hr => by
  unfold spFi at hr
  split at hr
  · simp only [Option.some.injEq, Prod.mk.injEq, Bool.and_eq_true] at hr
    obtain ⟨⟨h1, h2, h3⟩, rfl⟩ := hr
    exact c16' _ _ _ _ h1 h2 h3
  · exact absurd hr (by simp)
end Go.Proofs.Ytapaenfafjmljaa.V
