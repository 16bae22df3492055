/- Grants as text: contracts. -/
import Derived.Test.YtjbemleloffafaaDoorGtB
import Derived.Test.YtjbemleloffafaaDoorGrF
namespace Go.Proofs.YtjbemleloffafaaDoor.V
open Go
set_option maxRecDepth 100000
set_option linter.unusedVariables false
set_option linter.unusedSimpArgs false
variable {mx : Int}
theorem short_le {p : List UInt8} (h : short p = true) : p.length ≤ 4194304 := of_decide_eq_true h
theorem short_of {p : List UInt8} (h : p.length ≤ 4194304) : short p = true := decide_eq_true h
theorem c57 (p : List UInt8) (h : short p = true) : RetX (Γ mx) 57 [.s p] [] (.s (escV p)) [] := esc_ret (by have := short_le h; omega)
theorem c58 (p : List UInt8) (h : short p = true) : RetX (Γ mx) 58 [.s p] [] (.s (escV p)) [] := refEsc_ret (by have := short_le h; omega)
theorem c60 (p : List UInt8) (h : short p = true) : RetX (Γ mx) 60 [.s p] [] (.tuple [.s (unS p), .i .i64 (unE p)]) [] := un_ret (by have := short_le h; omega)
theorem c49 (p : List UInt8) (h : short p = true) : RetX (Γ mx) 49 [.s p] [] (.tuple [.s (unS p), .i .i64 (unE p)]) [] := refUn_ret (by have := short_le h; omega)
theorem h44_ok : CallsOK (Γ mx) (H44v short escV) := specs_ok (.cons (sp1_ok c57) .nil)
theorem c44 (p : List UInt8) (h : short p = true) : RetX (Γ mx) 44 [.s p] [] (.s (wordV p)) [] := by
  refine ret_goes (Γ := Γ mx) hP hZ h44_ok (by kernel_rfl) ⟨0, ?_⟩
  rw [r44, h, wordV]
  cases (p == []) <;> rfl
theorem h45_ok : CallsOK (Γ mx) (H45v short escV) := specs_ok (.cons (sp1_ok c58) .nil)
theorem c45 (p : List UInt8) (h : short p = true) : RetX (Γ mx) 45 [.s p] [] (.s (wordV p)) [] := by
  refine ret_goes (Γ := Γ mx) hP hZ h45_ok (by kernel_rfl) ⟨0, ?_⟩
  rw [r45, h, wordV]
  cases (p == []) <;> rfl
theorem h47_ok : CallsOK (Γ mx) (H47v short unS unE) := specs_ok (.cons (sp1_ok c60) .nil)
theorem c47 (p : List UInt8) (h : short p = true) : RetX (Γ mx) 47 [.s p] [] (.tuple [.s (uwS p), .b (uwB p)]) [] := by
  refine ret_goes (Γ := Γ mx) hP hZ h47_ok (by kernel_rfl) ⟨0, ?_⟩
  rw [r47, h, uwS, uwB]
  cases (p == [37]) with
  | true => rfl
  | false => cases (unE p == 0) <;> rfl
theorem spJ_ok : SpecOK (Γ mx) ⟨43, dat (spJ joinC joinV)⟩ := dat_ok fun args r hr => by
  unfold spJ at hr
  split at hr
  · simp only [Option.some.injEq, Prod.mk.injEq] at hr
    obtain ⟨h1, rfl⟩ := hr
    exact join_ret _ _ _ h1
  · exact absurd hr (by simp)
theorem spSp_ok : SpecOK (Γ mx) ⟨46, dat (spSp short (splitC 32))⟩ := dat_ok fun args r hr => by
  unfold spSp at hr
  split at hr
  · simp only [Option.some.injEq, Prod.mk.injEq] at hr
    obtain ⟨h1, rfl⟩ := hr
    exact split_ret 32 _ (by have := short_le h1; unfold s32; exact decide_eq_true (by omega))
  · exact absurd hr (by simp)
/-! ### the document's Words -/
def catHd (cur : List UInt8) : List (List UInt8) → List (List UInt8)
  | [] => [cur]
  | p :: q => (cur ++ p) :: q
theorem catHd_nil {L : List (List UInt8)} (h : L ≠ []) : catHd [] L = L := by
  cases L with
  | nil => exact absurd rfl h
  | cons p q => rfl
theorem catHd_cons (cur : List UInt8) (c : UInt8) {L : List (List UInt8)} (h : L ≠ []) : catHd cur (consHd c L) = catHd (cur ++ [c]) L := by
  cases L with
  | nil => exact absurd rfl h
  | cons p q => simp [catHd, consHd]
theorem lget_end {R : Type} (l : List D) (x : D) (K : D → Option R) : lGet (l ++ [x]) l.length K = K x := by unfold lGet; simp
theorem is32 (c : UInt8) : ((c.toNat : Int) == 32) = decide (c = 32) := by
  by_cases h : c = 32
  · subst h; rfl
  · rw [decide_eq_false h]
    have : c.toNat ≠ 32 := fun e => h (UInt8.toNat_inj.1 (by rw [e]; rfl))
    simp; omega
theorem room16b {n : Nat} (h : n ≤ 10000000) : roomB n 16 = true := by
  unfold roomB
  simp only [Bool.and_eq_true, decide_eq_true_eq]
  exact ⟨rfl, by omega⟩
theorem g48 (s : List UInt8) (hs : s.length ≤ 4194304) : ∀ (rest pre : List UInt8) (i : Int) (done : List D) (cur : List UInt8), s = pre ++ rest → i = (pre.length : Int) → done.length + cur.length ≤ pre.length →
    Goes (Γ mx) (runS []) 48 3 ⟨[(0, .s s), (3, .ref 9 0), (4, .i .i64 i)], [some (.arr 9 (done ++ [D.str cur]) false)]⟩ (.sl 9 .any (done ++ (catHd cur (spl 32 rest)).map D.str), [])
  | [], pre, i, done, cur, he, hi, hb => by
    subst hi
    refine Goes.step ⟨0, ?_⟩
    rw [r48_3a, decide_eq_false (show ¬ (pre.length : Int) < (s.length : Int) by rw [he]; simp)]
    simp [spl, catHd]
  | c :: r, pre, i, done, cur, he, hi, hb => by
    subst hi
    have hlen : s.length = pre.length + (r.length + 1) := by rw [he]; simp
    have hid : ∀ {R : Type} (K : UInt8 → Option R), idx s (pre.length : Int) K = K c := fun K => by rw [he]; exact idx_mid pre r _ K
    have hw : IntKind.wrap .i64 ((pre.length : Int) + 1) = (pre.length : Int) + 1 := wrapI (by omega) (by omega)
    have hcut : List.take ((Int.toNat ((pre.length : Int) + 1)) - (Int.toNat (pre.length : Int))) (List.drop (Int.toNat (pre.length : Int)) s) = [c] := by rw [he]; exact cut_one pre r c
    have hsp : spl 32 (c :: r) = if c = 32 then [] :: spl 32 r else consHd c (spl 32 r) := rfl
    by_cases hc : c = 32
    · obtain ⟨n, hn⟩ := g48 s hs r (pre ++ [c]) ((pre.length : Int) + 1) (done ++ [D.str cur]) [] (by rw [he]; simp) (by simp) (by simp; omega)
      refine Goes.step ⟨n, ?_⟩
      rw [r48_3a, decide_eq_true (show (pre.length : Int) < (s.length : Int) by omega), cond_true, hid, is32, decide_eq_true hc, cond_true, room16b (by simp; omega), cond_true, hw, hn, hsp, if_pos hc, catHd_nil (spl_ne 32 r)]
      simp [catHd]
    · obtain ⟨n, hn⟩ := g48 s hs r (pre ++ [c]) ((pre.length : Int) + 1) done (cur ++ [c]) (by rw [he]; simp) (by simp) (by simp; omega)
      refine Goes.step ⟨n, ?_⟩
      have hL : ((done ++ [D.str cur]).length : Int) = (done.length : Int) + 1 := by simp
      have hw2 : IntKind.wrap .i64 (((done ++ [D.str cur]).length : Int) - 1) = (done.length : Int) := by rw [hL, show (done.length : Int) + 1 - 1 = (done.length : Int) by omega]; exact wrapI (by omega) (by omega)
      rw [r48_3a, decide_eq_true (show (pre.length : Int) < (s.length : Int) by omega), cond_true, hid, is32, decide_eq_false hc, cond_false]
      simp only [hw2, hw, hcut]
      rw [decide_eq_true (show (0 : Int) ≤ (done.length : Int) by omega), decide_eq_true (show (done.length : Int) < ((done ++ [D.str cur]).length : Int) by omega), decide_eq_true (show (0 : Int) ≤ (pre.length : Int) + 1 by omega), decide_eq_true (show (pre.length : Int) + 1 ≤ (s.length : Int) by omega), decide_eq_true (show (0 : Int) ≤ (pre.length : Int) by omega), decide_eq_true (show (pre.length : Int) ≤ (Int.toNat ((pre.length : Int) + 1) : Int) by omega)]
      have hm : decide (cur.length + [c].length ≤ maxStr) = true := fits_max (show cur.length + [c].length ≤ 70368744177664 by simp; omega)
      simp only [hm, Bool.and_self, cond_true, Int.toNat_natCast, lget_end, dStr, List.set_append_right _ _ (Nat.le_refl _), Nat.sub_self, List.set_cons_zero]
      rw [hn, hsp, if_neg hc, catHd_cons cur c (spl_ne 32 r)]
theorem c48 (p : List UInt8) (h : short p = true) : RetX (Γ mx) 48 [.s p] [] (.sl 9 .any (splitC 32 p)) [] := by
  obtain ⟨n, hn⟩ := g48 (mx := mx) p (short_le h) p [] 0 [] [] rfl rfl (Nat.le_refl _)
  rw [catHd_nil (spl_ne 32 p), ← split_spl] at hn
  exact ret_goes (Γ := Γ mx) hP hZ none_ok (by kernel_rfl) ⟨n, by rw [r48]; exact hn⟩
/-! ### Text -/
theorem pcB_len {p : List UInt8} (h : pcB p = true) : p.length ≤ 200 := by
  unfold pcB at h
  simp only [Bool.and_eq_true, decide_eq_true_eq] at h
  exact h.1
theorem word_len (p : List UInt8) : (wordV p).length ≤ 3 * p.length + 1 := by
  unfold wordV
  cases (p == []) with
  | true => simp
  | false => have := esc_len p; simp; omega
theorem gr1 {b : Bool} {w t k : List UInt8} (h : grB [.agg [.bool b, .str w, .str t, .str k]] = true) : w.length ≤ 200 ∧ t.length ≤ 200 ∧ k.length ≤ 200 := by
  have h : (true && ((pcB w && (pcB t && pcB k)) && true)) = true := h
  simp only [Bool.true_and, Bool.and_true, Bool.and_eq_true] at h
  exact ⟨pcB_len h.1, pcB_len h.2.1, pcB_len h.2.2⟩
theorem allG1 (b : Bool) (w t k : List UInt8) : allG [.agg [.bool b, .str w, .str t, .str k]] = true := rfl
theorem h18_ok : CallsOK (Γ mx) (H18v allG grB joinC joinV wordV short) := specs_ok (.cons (spL1_ok c38) (.cons (sp1_ok c44) (.cons spJ_ok .nil)))
theorem c18 (g : D) (h : isG g = true) : RetX (Γ mx) 18 [.d 29 g] [] (.tuple [.s (textS g), .i .i64 (textE g)]) [] := by
  obtain ⟨b, w, t, k, rfl⟩ := isG_eq h
  refine ret_goes (Γ := Γ mx) hP hZ h18_ok (by kernel_rfl) ⟨0, ?_⟩
  have e : textS (.agg [.bool b, .str w, .str t, .str k]) = bif grB [.agg [.bool b, .str w, .str t, .str k]] then joinV [.str (firstW b), .str (wordV w), .str (wordV t), .str (wordV k)] [32] else [] := rfl
  rw [r18, allG1, cond_true, e, textE]
  cases hg : grB [.agg [.bool b, .str w, .str t, .str k]] with
  | false => rfl
  | true =>
    obtain ⟨h1, h2, h3⟩ := gr1 hg
    have hj : ∀ a : List UInt8, a.length ≤ 5 → joinC [.str a, .str (wordV w), .str (wordV t), .str (wordV k)] [32] = true := fun a ha => by
      unfold joinC
      rw [join4]
      have := word_len w; have := word_len t; have := word_len k
      simp only [Bool.and_eq_true, decide_eq_true_eq]
      refine ⟨⟨rfl, by simp⟩, ?_⟩
      simp only [List.length_append, List.length_cons]
      omega
    rw [short_of (show w.length ≤ 4194304 by omega), short_of (show t.length ≤ 4194304 by omega), short_of (show k.length ≤ 4194304 by omega)]
    rw [hj [100, 101, 110, 121] (by decide), hj [97, 108, 108, 111, 119] (by decide)]
    cases b <;> rfl
theorem h19_ok : CallsOK (Γ mx) (H19v allG grB wordV short) := specs_ok (.cons (spL1_ok c17) (.cons (sp1_ok c45) .nil))
theorem c19 (g : D) (h : isG g = true) : RetX (Γ mx) 19 [.d 29 g] [] (.tuple [.s (textS g), .i .i64 (textE g)]) [] := by
  obtain ⟨b, w, t, k, rfl⟩ := isG_eq h
  refine ret_goes (Γ := Γ mx) hP hZ h19_ok (by kernel_rfl) ⟨0, ?_⟩
  have e : textS (.agg [.bool b, .str w, .str t, .str k]) = bif grB [.agg [.bool b, .str w, .str t, .str k]] then joinV [.str (firstW b), .str (wordV w), .str (wordV t), .str (wordV k)] [32] else [] := rfl
  rw [r19, allG1, cond_true, e, textE]
  cases hg : grB [.agg [.bool b, .str w, .str t, .str k]] with
  | false => rfl
  | true =>
    obtain ⟨h1, h2, h3⟩ := gr1 hg
    have := word_len w; have := word_len t; have := word_len k
    rw [join4, short_of (show w.length ≤ 4194304 by omega), short_of (show t.length ≤ 4194304 by omega), short_of (show k.length ≤ 4194304 by omega)]
    simp only [cond_true, Bool.not_true, cond_false]
    have m : ∀ {n : Nat}, n ≤ 70368744177664 → decide (n ≤ maxStr) = true := fun h => fits_max h
    rw [m (by simp; omega), m (by simp; omega), m (by simp; omega), m (by simp; omega), m (by simp; omega), m (by simp; omega), m (by simp; omega), m (by simp; omega), m (by simp; omega), m (by simp; omega)]
    cases b <;> simp [firstW, denyW, allowW]
/-! ### Parse -/
def PA (p : List UInt8) : AV := .tuple [.d 29 (D.agg [D.bool (pa0 p), D.str (pa1 p), D.str (pa2 p), D.str (pa3 p)]), .i .i64 (paE p)]
def zA (e : Int) : AV := .tuple [.d 29 (D.agg [D.bool false, D.str [], D.str [], D.str []]), .i .i64 e]
theorem PA_none {s : List UInt8} (h : paL s = none) : PA s = zA 5 := by unfold PA zA pa0 pa1 pa2 pa3 paQ paE; rw [h]
theorem PA_form {s : List UInt8} {q : Bool × List UInt8 × List UInt8 × List UInt8} (h : paL s = some q) (hg : grB [gD q] = false) : PA s = zA 2 := by unfold PA zA pa0 pa1 pa2 pa3 paQ paE; rw [h]; simp only [hg, cond_false]
theorem PA_ok {s : List UInt8} {q : Bool × List UInt8 × List UInt8 × List UInt8} (h : paL s = some q) (hg : grB [gD q] = true) : PA s = .tuple [.d 29 (gD q), .i .i64 0] := by unfold PA pa0 pa1 pa2 pa3 paQ paE; rw [h]; simp only [hg, cond_true]; rfl
abbrev H20 : Handle := H20v allG grB short (splitC 32) uwB uwS
theorem h20_ok : CallsOK (Γ mx) H20 := specs_ok (.cons spSp_ok (.cons (sp1_ok c47) (.cons (spL1_ok c38) .nil)))
def st20 (L : List D) (n : Int) (x y z : List UInt8) : St := ⟨[(2, .ptr 0 [] 29), (4, .sl 9 .ex L), (5, .ptr 1 [] 74), (27, .i .i64 n)], [some (.box 29 (.d 29 (D.agg [D.bool false, D.str ([] : List UInt8), D.str ([] : List UInt8), D.str ([] : List UInt8)]))), some (.box 74 (.d 74 (D.agg [D.str x, D.str y, D.str z])))]⟩
theorem len4 {α : Type} {L : List α} (h : ∀ a b c d, L ≠ [a, b, c, d]) : L.length ≠ 4 := fun hl => by
  match L, hl with
  | [a, b, c, d], _ => exact h a b c d rfl
theorem paL_ne {s : List UInt8} (h : ∀ a b c d, spl 32 s ≠ [a, b, c, d]) : paL s = none := by
  unfold paL
  split
  · rename_i a b c d hs; exact absurd hs (h a b c d)
  · rfl
theorem paL_4 {s a b c d : List UInt8} (h : spl 32 s = [a, b, c, d]) : paL s = bif (a == allowW || a == denyW) && (uwB b && (uwB c && uwB d)) then some (a == denyW, uwS b, uwS c, uwS d) else none := by
  unfold paL; rw [h]
theorem split4 {s a b c d : List UInt8} (h : spl 32 s = [a, b, c, d]) : splitC 32 s = [D.str a, D.str b, D.str c, D.str d] := by
  unfold splitC; rw [split_spl, h]; rfl
theorem g20 (a b c d : List UInt8) (hb : short b = true) (hc : short c = true) (hd : short d = true) : Goes (Γ mx) H20 20 6 (st20 [D.str a, D.str b, D.str c, D.str d] 0 [] [] [])
    (bif uwB b && (uwB c && uwB d) then (bif grB [gD (a == denyW, uwS b, uwS c, uwS d)] then .tuple [.d 29 (gD (a == denyW, uwS b, uwS c, uwS d)), .i .i64 0] else zA 2) else zA 5, []) := by
  have s3 (lab : Lab) : evL (Γ mx) H20 lab 20 6 (st20 [D.str a, D.str b, D.str c, D.str d] 3 (uwS b) (uwS c) (uwS d)) = bif grB [gD (a == denyW, uwS b, uwS c, uwS d)] then some (.tuple [.d 29 (gD (a == denyW, uwS b, uwS c, uwS d)), .i .i64 0], []) else some (zA 2, []) := by
    unfold st20
    rw [r20_6a]
    show (bif allG [gD (a == denyW, uwS b, uwS c, uwS d)] then (bif !(grB [gD (a == denyW, uwS b, uwS c, uwS d)]) then _ else _) else none) = _
    rw [show allG [gD (a == denyW, uwS b, uwS c, uwS d)] = true from rfl]
    cases grB [gD (a == denyW, uwS b, uwS c, uwS d)] <;> rfl
  have s2 (lab : Lab) : evL (Γ mx) H20 lab 20 6 (st20 [D.str a, D.str b, D.str c, D.str d] 2 (uwS b) (uwS c) []) = bif short d then (bif !(uwB d) then some (zA 5, []) else lab (todoAt (Γ mx) 20 6) (st20 [D.str a, D.str b, D.str c, D.str d] 3 (uwS b) (uwS c) (uwS d))) else none := by
    unfold st20; rw [r20_6a]; rfl
  have s1 (lab : Lab) : evL (Γ mx) H20 lab 20 6 (st20 [D.str a, D.str b, D.str c, D.str d] 1 (uwS b) [] []) = bif short c then (bif !(uwB c) then some (zA 5, []) else lab (todoAt (Γ mx) 20 6) (st20 [D.str a, D.str b, D.str c, D.str d] 2 (uwS b) (uwS c) [])) else none := by
    unfold st20; rw [r20_6a]; rfl
  have s0 (lab : Lab) : evL (Γ mx) H20 lab 20 6 (st20 [D.str a, D.str b, D.str c, D.str d] 0 [] [] []) = bif short b then (bif !(uwB b) then some (zA 5, []) else lab (todoAt (Γ mx) 20 6) (st20 [D.str a, D.str b, D.str c, D.str d] 1 (uwS b) [] [])) else none := by
    unfold st20; rw [r20_6a]; rfl
  generalize hG : grB [gD (a == denyW, uwS b, uwS c, uwS d)] = gg at s3 ⊢
  generalize gD (a == denyW, uwS b, uwS c, uwS d) = gq at s3 ⊢
  have g3 : Goes (Γ mx) H20 20 6 (st20 [D.str a, D.str b, D.str c, D.str d] 3 (uwS b) (uwS c) (uwS d)) (bif gg then .tuple [.d 29 gq, .i .i64 0] else zA 2, []) := Goes.step ⟨0, by rw [s3]; cases gg <;> rfl⟩
  have g2 : Goes (Γ mx) H20 20 6 (st20 [D.str a, D.str b, D.str c, D.str d] 2 (uwS b) (uwS c) []) (bif uwB d then (bif gg then .tuple [.d 29 gq, .i .i64 0] else zA 2) else zA 5, []) := by
    obtain ⟨n, hn⟩ := g3
    refine Goes.step ⟨n, ?_⟩
    rw [s2, hd, cond_true]
    cases uwB d with
    | false => rfl
    | true => exact hn
  have g1 : Goes (Γ mx) H20 20 6 (st20 [D.str a, D.str b, D.str c, D.str d] 1 (uwS b) [] []) (bif uwB c && uwB d then (bif gg then .tuple [.d 29 gq, .i .i64 0] else zA 2) else zA 5, []) := by
    obtain ⟨n, hn⟩ := g2
    refine Goes.step ⟨n, ?_⟩
    rw [s1, hc, cond_true]
    cases uwB c with
    | false => rfl
    | true => exact hn
  obtain ⟨n, hn⟩ := g1
  refine Goes.step ⟨n, ?_⟩
  rw [s0, hb, cond_true]
  cases uwB b with
  | false => rfl
  | true => exact hn
theorem c20 (s : List UInt8) (h : short s = true) : RetX (Γ mx) 20 [.s s] [] (PA s) [] := by
  by_cases h4 : ∃ a b c d, spl 32 s = [a, b, c, d]
  · obtain ⟨a, b, c, d, hs⟩ := h4
    have hl := spl_len 32 s
    rw [hs] at hl
    have hsl := short_le h
    have hb : short b = true := short_of (Nat.le_trans (hl b (by simp)) hsl)
    have hc : short c = true := short_of (Nat.le_trans (hl c (by simp)) hsl)
    have hd : short d = true := short_of (Nat.le_trans (hl d (by simp)) hsl)
    have hp := paL_4 hs
    obtain ⟨n, hn⟩ := g20 (mx := mx) a b c d hb hc hd
    have e : evF (Γ mx) H20 (L (Γ mx) H20 20 n) 20 [.s s] [] = bif a == allowW || a == denyW then L (Γ mx) H20 20 n (todoAt (Γ mx) 20 6) (st20 [D.str a, D.str b, D.str c, D.str d] 0 [] [] []) else some (zA 5, []) := by
      rw [r20, h, split4 hs]
      show (bif !(a == allowW) then (bif !(a == denyW) then _ else _) else _) = _
      cases (a == allowW) <;> cases (a == denyW) <;> rfl
    refine ret_goes (Γ := Γ mx) hP hZ h20_ok (by kernel_rfl) ⟨n, ?_⟩
    rw [e, hn]
    cases hf : (a == allowW || a == denyW) with
    | false => rw [hf] at hp; rw [PA_none hp]; rfl
    | true =>
    rw [hf] at hp
    cases hu : (uwB b && (uwB c && uwB d)) with
    | false => rw [hu] at hp; rw [PA_none hp]; rfl
    | true =>
    rw [hu] at hp
    cases hg : grB [gD (a == denyW, uwS b, uwS c, uwS d)] with
    | false => rw [PA_form hp hg]; rfl
    | true => rw [PA_ok hp hg]; rfl
  · have h4 : ∀ a b c d, spl 32 s ≠ [a, b, c, d] := fun a b c d e => h4 ⟨a, b, c, d, e⟩
    refine ret_goes (Γ := Γ mx) hP hZ h20_ok (by kernel_rfl) ⟨0, ?_⟩
    have hl : (((splitC 32 s).length : Int) != 4) = true := by
      have := len4 h4
      unfold splitC
      rw [split_spl, List.length_map]
      simp; omega
    rw [r20, h, hl, PA_none (paL_ne h4)]; rfl
abbrev H21 : Handle := H21v allG grB short (splitC 32) unS unE
theorem h21_ok : CallsOK (Γ mx) H21 := specs_ok (.cons (sp1_ok c48) (.cons (sp1_ok c49) (.cons (spL1_ok c17) .nil)))
def st21 (L : List D) (n : Int) (v x y z : List UInt8) : St := ⟨[(2, .ptr 0 [] 29), (4, .sl 9 .any L), (5, .ptr 1 [] 77), (6, .i .i64 n)], [some (.box 29 (.d 29 (D.agg [D.bool false, D.str ([] : List UInt8), D.str ([] : List UInt8), D.str ([] : List UInt8)]))), some (.box 77 (.d 77 (D.agg [D.str v, D.str x, D.str y, D.str z])))]⟩
/-- one word -/
theorem un_uw (b : List UInt8) {R : Type} (A : List UInt8 → R) (Z : R) : (bif b == [37] then A [] else (bif (unE b) != 0 then Z else (bif (unS b) == [] then Z else A (unS b)))) = bif uwB b then A (uwS b) else Z := by
  unfold uwB uwS
  cases (b == [37]) with
  | true => rfl
  | false =>
    rw [show ((unE b) != 0) = !(unE b == 0) from rfl]
    cases (unE b == 0) <;> cases (unS b == []) <;> rfl
theorem g21 (a b c d : List UInt8) (hb : short b = true) (hc : short c = true) (hd : short d = true) : Goes (Γ mx) H21 21 6 (st21 [D.str a, D.str b, D.str c, D.str d] 1 [] [] [] [])
    (bif uwB b && (uwB c && uwB d) then (bif grB [gD (a == denyW, uwS b, uwS c, uwS d)] then .tuple [.d 29 (gD (a == denyW, uwS b, uwS c, uwS d)), .i .i64 0] else zA 2) else zA 5, []) := by
  have s4 (lab : Lab) : evL (Γ mx) H21 lab 21 6 (st21 [D.str a, D.str b, D.str c, D.str d] 4 [] (uwS b) (uwS c) (uwS d)) = bif grB [gD (a == denyW, uwS b, uwS c, uwS d)] then some (.tuple [.d 29 (gD (a == denyW, uwS b, uwS c, uwS d)), .i .i64 0], []) else some (zA 2, []) := by
    unfold st21
    rw [r21_6a]
    show (bif allG [gD (a == denyW, uwS b, uwS c, uwS d)] then (bif !(grB [gD (a == denyW, uwS b, uwS c, uwS d)]) then _ else _) else none) = _
    rw [show allG [gD (a == denyW, uwS b, uwS c, uwS d)] = true from rfl]
    cases grB [gD (a == denyW, uwS b, uwS c, uwS d)] <;> rfl
  have s3 (lab : Lab) : evL (Γ mx) H21 lab 21 6 (st21 [D.str a, D.str b, D.str c, D.str d] 3 [] (uwS b) (uwS c) []) = bif uwB d then lab (todoAt (Γ mx) 21 6) (st21 [D.str a, D.str b, D.str c, D.str d] 4 [] (uwS b) (uwS c) (uwS d)) else some (zA 5, []) := by
    rw [← un_uw d (fun z => lab (todoAt (Γ mx) 21 6) (st21 [D.str a, D.str b, D.str c, D.str d] 4 [] (uwS b) (uwS c) z))]
    unfold st21; rw [r21_6a]
    show (bif d == [37] then _ else bif short d then _ else none) = _
    rw [hd]; rfl
  have s2 (lab : Lab) : evL (Γ mx) H21 lab 21 6 (st21 [D.str a, D.str b, D.str c, D.str d] 2 [] (uwS b) [] []) = bif uwB c then lab (todoAt (Γ mx) 21 6) (st21 [D.str a, D.str b, D.str c, D.str d] 3 [] (uwS b) (uwS c) []) else some (zA 5, []) := by
    rw [← un_uw c (fun z => lab (todoAt (Γ mx) 21 6) (st21 [D.str a, D.str b, D.str c, D.str d] 3 [] (uwS b) z []))]
    unfold st21; rw [r21_6a]
    show (bif c == [37] then _ else bif short c then _ else none) = _
    rw [hc]; rfl
  have s1 (lab : Lab) : evL (Γ mx) H21 lab 21 6 (st21 [D.str a, D.str b, D.str c, D.str d] 1 [] [] [] []) = bif uwB b then lab (todoAt (Γ mx) 21 6) (st21 [D.str a, D.str b, D.str c, D.str d] 2 [] (uwS b) [] []) else some (zA 5, []) := by
    rw [← un_uw b (fun z => lab (todoAt (Γ mx) 21 6) (st21 [D.str a, D.str b, D.str c, D.str d] 2 [] z [] []))]
    unfold st21; rw [r21_6a]
    show (bif b == [37] then _ else bif short b then _ else none) = _
    rw [hb]; rfl
  generalize hG : grB [gD (a == denyW, uwS b, uwS c, uwS d)] = gg at s4 ⊢
  generalize gD (a == denyW, uwS b, uwS c, uwS d) = gq at s4 ⊢
  have g4 : Goes (Γ mx) H21 21 6 (st21 [D.str a, D.str b, D.str c, D.str d] 4 [] (uwS b) (uwS c) (uwS d)) (bif gg then .tuple [.d 29 gq, .i .i64 0] else zA 2, []) := Goes.step ⟨0, by rw [s4]; cases gg <;> rfl⟩
  have g3 : Goes (Γ mx) H21 21 6 (st21 [D.str a, D.str b, D.str c, D.str d] 3 [] (uwS b) (uwS c) []) (bif uwB d then (bif gg then .tuple [.d 29 gq, .i .i64 0] else zA 2) else zA 5, []) := by
    obtain ⟨n, hn⟩ := g4
    refine Goes.step ⟨n, ?_⟩
    rw [s3]
    cases uwB d with
    | false => rfl
    | true => exact hn
  have g2 : Goes (Γ mx) H21 21 6 (st21 [D.str a, D.str b, D.str c, D.str d] 2 [] (uwS b) [] []) (bif uwB c && uwB d then (bif gg then .tuple [.d 29 gq, .i .i64 0] else zA 2) else zA 5, []) := by
    obtain ⟨n, hn⟩ := g3
    refine Goes.step ⟨n, ?_⟩
    rw [s2]
    cases uwB c with
    | false => rfl
    | true => exact hn
  obtain ⟨n, hn⟩ := g2
  refine Goes.step ⟨n, ?_⟩
  rw [s1]
  cases uwB b with
  | false => rfl
  | true => exact hn
theorem c21 (s : List UInt8) (h : short s = true) : RetX (Γ mx) 21 [.s s] [] (PA s) [] := by
  by_cases h4 : ∃ a b c d, spl 32 s = [a, b, c, d]
  · obtain ⟨a, b, c, d, hs⟩ := h4
    have hl := spl_len 32 s
    rw [hs] at hl
    have hsl := short_le h
    have hb : short b = true := short_of (Nat.le_trans (hl b (by simp)) hsl)
    have hc : short c = true := short_of (Nat.le_trans (hl c (by simp)) hsl)
    have hd : short d = true := short_of (Nat.le_trans (hl d (by simp)) hsl)
    have hp := paL_4 hs
    obtain ⟨n, hn⟩ := g21 (mx := mx) a b c d hb hc hd
    have e : evF (Γ mx) H21 (L (Γ mx) H21 21 n) 21 [.s s] [] = bif a == allowW || a == denyW then L (Γ mx) H21 21 n (todoAt (Γ mx) 21 6) (st21 [D.str a, D.str b, D.str c, D.str d] 1 [] [] [] []) else some (zA 5, []) := by
      rw [r21, h, split4 hs]
      show (bif !(a == allowW) then (bif !(a == denyW) then _ else _) else _) = _
      cases (a == allowW) <;> cases (a == denyW) <;> rfl
    refine ret_goes (Γ := Γ mx) hP hZ h21_ok (by kernel_rfl) ⟨n, ?_⟩
    rw [e, hn]
    cases hf : (a == allowW || a == denyW) with
    | false => rw [hf] at hp; rw [PA_none hp]; rfl
    | true =>
    rw [hf] at hp
    cases hu : (uwB b && (uwB c && uwB d)) with
    | false => rw [hu] at hp; rw [PA_none hp]; rfl
    | true =>
    rw [hu] at hp
    cases hg : grB [gD (a == denyW, uwS b, uwS c, uwS d)] with
    | false => rw [PA_form hp hg]; rfl
    | true => rw [PA_ok hp hg]; rfl
  · have h4 : ∀ a b c d, spl 32 s ≠ [a, b, c, d] := fun a b c d e => h4 ⟨a, b, c, d, e⟩
    refine ret_goes (Γ := Γ mx) hP hZ h21_ok (by kernel_rfl) ⟨0, ?_⟩
    have hl : (((splitC 32 s).length : Int) != 4) = true := by
      have := len4 h4
      unfold splitC
      rw [split_spl, List.length_map]
      simp; omega
    rw [r21, h, hl, PA_none (paL_ne h4)]; rfl
/-! ### the laws -/
theorem h5_ok : CallsOK (Γ mx) (H5v short textS textE pa0 pa1 pa2 pa3 paE isG) := specs_ok (.cons (sp0_ok c12) (.cons (spD1_ok c18) (.cons (spD1_ok c19) (.cons (sp1_ok c20) (.cons (sp1_ok c21) .nil)))))
theorem law5 (b : Bool) (w t k s : List UInt8) (h : short s = true) : RetX (Γ mx) 5 [.d 29 (D.agg [D.bool b, D.str w, D.str t, D.str k]), .s s] [] (.b true) [] := by
  refine ret_goes (Γ := Γ mx) hP hZ h5_ok (by kernel_rfl) ⟨0, ?_⟩
  rw [r5, h, show isG (D.agg [D.bool b, D.str w, D.str t, D.str k]) = true from rfl]
  have e : ∀ (p : Bool) (q r t : List UInt8), eqD (D.agg [.bool p, .str q, .str r, .str t]) (D.agg [.bool p, .str q, .str r, .str t]) = true := fun p q r t => by
    simp [eqD, eqDs]
  simp [e]
theorem h6_ok : CallsOK (Γ mx) (H6v short textS textE pa0 pa1 pa2 pa3 paE isG) := specs_ok (.cons (sp0_ok c12) (.cons (spD1_ok c18) (.cons (sp1_ok c20) .nil)))
theorem text_len (b : Bool) (w t k : List UInt8) : (textS (D.agg [D.bool b, D.str w, D.str t, D.str k])).length ≤ 4194304 := by
  have e : textS (.agg [.bool b, .str w, .str t, .str k]) = bif grB [.agg [.bool b, .str w, .str t, .str k]] then joinV [.str (firstW b), .str (wordV w), .str (wordV t), .str (wordV k)] [32] else [] := rfl
  rw [e]
  cases hg : grB [.agg [.bool b, .str w, .str t, .str k]] with
  | false => simp
  | true =>
    obtain ⟨h1, h2, h3⟩ := gr1 hg
    have := word_len w; have := word_len t; have := word_len k
    have : (firstW b).length ≤ 5 := by cases b <;> decide
    rw [join4, cond_true]
    simp only [List.length_append, List.length_cons]; omega
theorem law6 (b : Bool) (w t k s : List UInt8) (h : short s = true) : RetX (Γ mx) 6 [.d 29 (D.agg [D.bool b, D.str w, D.str t, D.str k]), .s s] [] (.b true) [] := by
  refine ret_goes (Γ := Γ mx) hP hZ h6_ok (by kernel_rfl) ⟨0, ?_⟩
  have eG : D.agg [D.bool b, D.str w, D.str t, D.str k] = gD (b, w, t, k) := rfl
  rw [r6, h, show isG (D.agg [D.bool b, D.str w, D.str t, D.str k]) = true from rfl, short_of (text_len b w t k), show isG (D.agg [D.bool (pa0 s), D.str (pa1 s), D.str (pa2 s), D.str (pa3 s)]) = true from rfl, gD_eq, gD_eq, eG]
  have e : ∀ q, eqD (gD q) (gD q) = true := fun q => by
    simp [gD, eqD, eqDs]
  -- what is read is written so
  have hback : paE s = 0 → (textE (gD (paQ s)) == 0) = true ∧ (textS (gD (paQ s)) == s) = true := fun h0 => by
    unfold paE at h0
    unfold paQ
    cases hp : paL s with
    | none => rw [hp] at h0; simp at h0
    | some q =>
      rw [hp] at h0
      simp only at h0 ⊢
      cases hg : grB [gD q] with
      | false => rw [hg] at h0; simp at h0
      | true =>
        rw [cond_true]
        refine ⟨by unfold textE; rw [hg]; rfl, ?_⟩
        rw [text_pa hp hg]; exact beq_self_eq_true s
  have hB : (bif paE s != 0 then some (AV.b true, ([] : Objs)) else bif textE (gD (paQ s)) == 0 then some (AV.b (textS (gD (paQ s)) == s), []) else some (AV.b false, [])) = some (AV.b true, []) := by
    by_cases h0 : paE s = 0
    · obtain ⟨h1, h2⟩ := hback h0
      rw [h0, h1, h2]; rfl
    · rw [show (paE s != 0) = true by simpa using h0]; rfl
  rw [hB]
  have hT : textE (gD (b, w, t, k)) = bif grB [gD (b, w, t, k)] then 0 else 2 := rfl
  rw [hT]
  cases hg : grB [gD (b, w, t, k)] with
  | false => rfl
  | true =>
    have hp := pa_text hg
    have hE : paE (textS (gD (b, w, t, k))) = 0 := by unfold paE; rw [hp]; simp only [hg, cond_true]
    have hQ : paQ (textS (gD (b, w, t, k))) = (b, w, t, k) := by unfold paQ; rw [hp]; simp only [hg, cond_true]
    rw [hE, hQ, e]; rfl
end Go.Proofs.YtjbemleloffafaaDoor.V
