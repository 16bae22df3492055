/- The group of a key: what label.Group and ref.Group come to; LabelGroups, LabelParts at every three texts of at most so many letters. -/
import Derived.Test.YtdelibcanngipaaDoorLdB
import Derived.Test.YtdelibcanngipaaDoorLbF
import Derived.Test.YtdelibcanngipaaDoorLcH
import Derived.Lib.IndexLaws
namespace Go.Proofs.YtdelibcanngipaaDoor.V
open Go
set_option maxRecDepth 100000
set_option linter.unusedVariables false
set_option linter.unusedSimpArgs false

theorem begins_pre : ∀ s p : List UInt8, begins s p = p.isPrefixOf s
  | s, [] => by rw [begins_nil]; simp
  | [], b :: p => by rw [begins_nil_cons]; rfl
  | a :: s, b :: p => by rw [begins_cons, begins_pre s p, List.isPrefixOf_cons_cons, Bool.beq_comm]
theorem begins_app {s p : List UInt8} (h : begins s p = true) : ∃ r, s = p ++ r := by
  rw [begins_pre] at h
  obtain ⟨r, hr⟩ := List.isPrefixOf_iff_prefix.1 h
  exact ⟨r, hr.symm⟩
theorem app_begins (p r : List UInt8) : begins (p ++ r) p = true := by
  rw [begins_pre]; exact List.isPrefixOf_iff_prefix.2 ⟨r, rfl⟩
theorem hasp_ret {call : Handle} (hc : CallsOK Γ call) (s p : List UInt8) : RetX Γ 54 [.s s, .s p] [] (.b (begins s p)) [] := by
  refine ret_goes hP hZ hc (by kernel_rfl) ⟨0, ?_⟩
  rw [r54]
  by_cases h : p.length ≤ s.length
  · have d1 : decide ((s.length : Int) ≥ (p.length : Int)) = true := by simp <;> omega
    have d0 : decide ((0 : Int) ≤ (p.length : Int)) = true := by simp <;> omega
    rw [d1, d0]
    simp only [Bool.and_self, cond_true, Int.toNat_natCast, Nat.sub_zero, List.drop_zero, begins, h, decide_true, Bool.true_and]
  · have d1 : decide ((s.length : Int) ≥ (p.length : Int)) = false := by simp <;> omega
    simp only [d1, cond_false, begins, h, decide_false, Bool.false_and]
theorem hg1_ok : CallsOK Γ Hg1 := specs_ok (.cons (sp2_ok fun s p _ => hasp_ret ext_ok s p) .nil)
theorem cutp41_ret (s p : List UInt8) : RetX Γ 41 [.s s, .s p] [] (cutPA s p) [] := by
  refine ret_goes hP hZ hg1_ok (by kernel_rfl) ⟨0, ?_⟩
  rw [r41]
  cases h : begins s p with
  | false => simp only [cutPA, cutP, h, Bool.not_false, cond_true, Bool.false_eq_true, if_false]
  | true =>
    obtain ⟨r, rfl⟩ := begins_app h
    have d : (decide ((0 : Int) ≤ (p.length : Int)) && decide ((p.length : Int) ≤ ((p ++ r).length : Int))) = true := by simp <;> omega
    simp only [Bool.not_true, cond_false, d, cond_true, cutPA, cutP, h, if_true, Int.toNat_natCast]
    simp
theorem hg2_ok : CallsOK Γ Hg2 := specs_ok (.cons (sp2_ok fun s p _ => cutp41_ret s p) .nil)
theorem cutp_ret (s p : List UInt8) : RetX Γ 34 [.s s, .s p] [] (cutPA s p) [] :=
  ret_goes hP hZ hg2_ok (by kernel_rfl) ⟨0, by rw [r34]; rfl⟩
theorem hg3_ok (mx : Int) : CallsOK (Γm mx) Hg3 := specs_ok (.cons (sp2_ok fun s p _ => (cutp_ret s p).more) (.cons (sp2_ok fun s p h => cut_ret mx s p h) .nil))

/-! ### the group -/
def gv (pre rest m : List UInt8) : Option (List UInt8) := if 0 ≤ Lib.index rest m then some (pre ++ rest.take (Lib.index rest m).toNat ++ m) else none
theorem gv_nil (pre m : List UInt8) (hm : m ≠ []) : gv pre [] m = none := by
  unfold gv Lib.index
  cases m with
  | nil => exact absurd rfl hm
  | cons a m => simp
theorem gv_cons (pre : List UInt8) (b : UInt8) (r m : List UInt8) : gv pre (b :: r) m = if m.isPrefixOf (b :: r) = true then some (pre ++ m) else gv (pre ++ [b]) r m := by
  unfold gv
  rw [Lib.index]
  by_cases h : m.isPrefixOf (b :: r) = true
  · simp [h]
  · rw [if_neg h, if_neg h]
    have hge := Lib.index_ge r m
    by_cases h1 : Lib.index r m = -1
    · rw [h1]; rfl
    · have h2 : (Lib.index r m == -1) = false := by simpa using h1
      rw [h2]
      simp only [Bool.false_eq_true, if_false]
      rw [if_pos (show 0 ≤ Lib.index r m + 1 by omega), if_pos (show 0 ≤ Lib.index r m by omega), show (Lib.index r m + 1).toNat = (Lib.index r m).toNat + 1 by omega]
      simp
theorem grpV_gv (p r m : List UInt8) (hm : m ≠ []) : grpV (p ++ r) p m = gv p r m := by
  unfold grpV gv
  rw [if_neg hm, if_pos (app_begins p r)]
  simp only [List.drop_left]
theorem idx_le (s m : List UInt8) : Lib.index s m ≤ s.length := by
  induction s with
  | nil => unfold Lib.index; split <;> simp
  | cons b l ih =>
    unfold Lib.index
    split
    · simp <;> omega
    · split
      · simp <;> omega
      · simp only [List.length_cons] <;> omega
theorem grp_ret (mx : Int) (s p m : List UInt8) (h : s31 s p m = true) : RetX (Γm mx) 20 [.s s, .s p, .s m] [] (grpA s p m) [] := by
  refine ret_goes hP hZ (hg3_ok mx) (by kernel_rfl) ⟨0, ?_⟩
  rw [r20]
  simp only [s31, Bool.and_eq_true, decide_eq_true_eq] at h
  cases hb : begins s p with
  | false => simp [grpA, grpS, grpB, grpV, hb]
  | true =>
    by_cases hm : m = []
    · subst hm; simp [grpA, grpS, grpB, grpV]
    · obtain ⟨r, rfl⟩ := begins_app hb
      have hm' : (m == ([] : List UInt8)) = false := by simpa using hm
      have hc : cutP (p ++ r) p = r := by unfold cutP; rw [hb]; simp
      rw [hc, hm']
      have hl : r.length ≤ 1073741824 := by have := h.1.1; simp at this; omega
      have h32 : s32 r = true := by simpa [s32] using (by omega)
      rw [h32]
      simp only [grpA, grpS, grpB, grpV_gv p r m hm, gv, Lib.cut]
      by_cases hi : 0 ≤ Lib.index r m
      · simp only [if_pos hi, Bool.not_true, cond_false, cond_true]
        have h1 : (r.take (Lib.index r m).toNat).length ≤ r.length := by rw [List.length_take]; exact Nat.min_le_right _ _
        have d1 : decide (p.length + (r.take (Lib.index r m).toNat).length ≤ maxStr) = true := decide_eq_true (by unfold maxStr; omega)
        have d2 : decide ((p ++ r.take (Lib.index r m).toNat).length + m.length ≤ maxStr) = true := decide_eq_true (by unfold maxStr; rw [List.length_append]; omega)
        rw [d1, d2]
        rfl
      · simp only [if_neg hi, Bool.not_true, Bool.not_false, cond_false, cond_true]
        rfl
theorem hg4_ok : CallsOK Γ Hg4 := specs_ok (.cons (sp2_ok fun s p _ => begins_ret ext_ok s p) .nil)
theorem refGrp_goes (m s : List UInt8) (hm : m ≠ []) (hlen : s.length + m.length ≤ 1099511627776) : ∀ (rest pre : List UInt8) (i : Int), s = pre ++ rest → i = (pre.length : Int) →
    Goes Γ Hg4 21 4 ⟨[(0, .s s), (2, .s m), (8, .i .i64 i)], []⟩ (.tuple [.s ((gv pre rest m).getD []), .b (gv pre rest m).isSome], [])
  | [], pre, i, he, hi => by
    subst hi
    refine Goes.step ⟨0, ?_⟩
    rw [r21_4a]
    have d1 : decide ((pre.length : Int) < (s.length : Int)) = false := decide_eq_false (by rw [he]; simp)
    rw [d1, gv_nil pre m hm]
    rfl
  | b :: r, pre, i, he, hi => by
    subst hi
    have hpl : pre.length + (r.length + 1) = s.length := by rw [he]; simp
    obtain ⟨k, hk⟩ := refGrp_goes m s hm hlen r (pre ++ [b]) ((pre.length : Int) + 1) (by rw [he]; simp) (by simp)
    refine Goes.step ⟨k, ?_⟩
    rw [r21_4a, gv_cons]
    have d1 : decide ((pre.length : Int) < (s.length : Int)) = true := decide_eq_true (by omega)
    have d2 : (decide ((0 : Int) ≤ (pre.length : Int)) && decide ((pre.length : Int) ≤ (s.length : Int))) = true := by simp <;> omega
    have hw : IntKind.wrap .i64 ((pre.length : Int) + 1) = (pre.length : Int) + 1 := wrap_id (by omega) (by omega)
    have e1 : List.take (s.length - (pre.length : Int).toNat) (List.drop (pre.length : Int).toNat s) = b :: r := by rw [he]; simp
    have e2 : List.take ((pre.length : Int).toNat - 0) (List.drop 0 s) = pre := by rw [he]; simp
    simp only [d1, d2, cond_true, e1, e2, hw, begins_pre]
    by_cases hb : m.isPrefixOf (b :: r) = true
    · have d3 : decide (pre.length + m.length ≤ maxStr) = true := decide_eq_true (by unfold maxStr; omega)
      simp only [hb, if_true, cond_true, d3, Option.getD_some, Option.isSome_some]
    · rw [if_neg hb]
      have hb' : m.isPrefixOf (b :: r) = false := Bool.eq_false_iff.2 hb
      simp only [hb', cond_false]
      exact hk
theorem refGrp_ret (s p m : List UInt8) (h : s31 s p m = true) : RetX Γ 21 [.s s, .s p, .s m] [] (grpA s p m) [] := by
  simp only [s31, Bool.and_eq_true, decide_eq_true_eq] at h
  by_cases hm : m = []
  · subst hm
    refine ret_goes hP hZ hg4_ok (by kernel_rfl) ⟨0, ?_⟩
    rw [r21]
    simp [grpA, grpS, grpB, grpV]
  · have hm' : (m == ([] : List UInt8)) = false := by simpa using hm
    cases hb : begins s p with
    | false =>
      refine ret_goes hP hZ hg4_ok (by kernel_rfl) ⟨0, ?_⟩
      rw [r21, hm', hb]
      simp [grpA, grpS, grpB, grpV, hb]
    | true =>
      obtain ⟨r, rfl⟩ := begins_app hb
      obtain ⟨k, hk⟩ := refGrp_goes m (p ++ r) hm (by omega) r p (p.length : Int) rfl rfl
      refine ret_goes hP hZ hg4_ok (by kernel_rfl) ⟨k, ?_⟩
      rw [r21, hm', hb]
      simp only [grpA, grpS, grpB, grpV_gv p r m hm]
      exact hk

/-! ### ref.Next -/
theorem refNext_goes (call : Handle) (s : List UInt8) (hl : s.length ≤ 1125899906842624) : ∀ (n : Nat) (l r : List UInt8) (i : Int), l.length = n → s = l ++ r → i = (l.length : Int) →
    Goes Γ call 19 2 ⟨[(0, .s s), (4, .i .i64 i)], []⟩ (.tuple [.s (nextS l), .b (nextB l)], [])
  | n, l, r, i, hn, he, hi => by
    subst hi
    rcases snoc_cases l with rfl | ⟨q, c, rfl⟩
    · refine Goes.step ⟨0, ?_⟩
      rw [r19_2a]
      rfl
    · simp only [List.length_append, List.length_cons, List.length_nil] at hn
      have hsl : q.length + 1 + r.length = s.length := by rw [he]; simp only [List.length_append, List.length_cons, List.length_nil]
      obtain ⟨k, hk⟩ := refNext_goes call s hl q.length q (c :: r) (q.length : Int) rfl (by rw [he]; simp) rfl
      refine Goes.step ⟨k, ?_⟩
      rw [r19_2a]
      have hw : IntKind.wrap .i64 (((q ++ [c]).length : Int) - 1) = (q.length : Int) := by
        rw [show ((q ++ [c]).length : Int) - 1 = (q.length : Int) by simp]
        exact wrap_id (by omega) (by omega)
      have d1 : decide (((q ++ [c]).length : Int) > 0) = true := by simp <;> omega
      have hid : ∀ {R : Type} (K : UInt8 → Option R), idx s (q.length : Int) K = K c := fun K => by rw [he, List.append_assoc]; exact idx_mid _ _ _ K
      have d2 : (decide ((0 : Int) ≤ (q.length : Int)) && decide ((q.length : Int) ≤ (s.length : Int))) = true := by simp <;> omega
      have e2 : List.take ((q.length : Int).toNat - 0) (List.drop 0 s) = q := by rw [he]; simp
      simp only [d1, hw, hid, cond_true, d2, e2, nextS, nextB, nextV_snoc]
      by_cases hc : c = 255
      · subst hc
        have : (((255 : UInt8).toNat : Int) != 255) = false := rfl
        simp only [this, cond_false, if_true]
        exact hk
      · have h1 : c.toNat ≠ 255 := fun e => hc (UInt8.toNat_inj.1 (by rw [e]; rfl))
        have : ((c.toNat : Int) != 255) = true := by simp <;> omega
        rw [this, wrap8 c hc]
        have hb : ∀ {R : Type} (K : List UInt8 → Option R), kBytes [D.int .u8 ((c + 1).toNat : Int)] K = K [c + 1] := fun K => kBytes_bytesD [c + 1] K
        have d3 : decide (q.length + [c + 1].length ≤ maxStr) = true := decide_eq_true (by unfold maxStr; simp <;> omega)
        simp only [cond_true, hb, d3, if_neg hc, Option.getD_some, Option.isSome_some]
theorem refNext_ret {call : Handle} (hc : CallsOK Γ call) (l : List UInt8) (hl : l.length ≤ 1125899906842624) : RetX Γ 19 [.s l] [] (nextA l) [] := by
  obtain ⟨n, hn⟩ := refNext_goes call l hl _ l [] (l.length : Int) rfl (by simp) rfl
  refine ret_goes hP hZ hc (by kernel_rfl) ⟨n, ?_⟩
  rw [r19]; exact hn

/-! ### the laws -/
theorem shortB2_le {p : List UInt8} (h : shortB2 p = true) : p.length ≤ 1125899906842624 := by simpa [shortB2] using h
theorem hg5_ok (mx : Int) : CallsOK (Γm mx) Hg5 :=
  specs_ok (.cons (sp1_ok fun p h => (next_ret ext_ok p (shortB2_le h)).more) (.cons (sp1_ok fun p h => (refNext_ret ext_ok p (shortB2_le h)).more) (.cons (sp3_ok fun s p m h => grp_ret mx s p m h) (.cons (sp3_ok fun s p m h => (refGrp_ret s p m h).more) (.cons (sp0_ok fun _ => awake_ret.more) .nil)))))
theorem law5 (mx : Int) (s p m : List UInt8) (h : s31 s p m = true) : Ret (Γm mx) 5 [.s s, .s p, .s m] (.b true) := by
  refine (ret_goes (Γ := Γm mx) hP hZ (hg5_ok mx) (by kernel_rfl) ⟨0, ?_⟩).ret (by kernel_rfl)
  have hs : shortB2 s = true := by
    simp only [s31, Bool.and_eq_true, decide_eq_true_eq] at h
    simpa [shortB2] using (by omega)
  rw [r5]
  simp only [h, hs, cond_true, beq_self_eq_true]
theorem hg8_ok (mx : Int) : CallsOK (Γm mx) Hg8 :=
  specs_ok (.cons (sp3_ok fun s p m h => grp_ret mx s p m h) (.cons (sp0_ok fun _ => awake_ret.more) (.cons (sp1_ok fun p h => (un_ret (short_le h)).more) (.cons (sp1_ok fun p h => (esc_ret (short_le h)).more) (.cons (sp2_ok fun s p _ => (begins_ret ext_ok s p).more) .nil)))))
/-- the group of a group is that group -/
theorem gv_again {p r m : List UInt8} (hm : m ≠ []) (h : 0 ≤ Lib.index r m) : gv p (r.take (Lib.index r m).toNat ++ m) m = some (p ++ r.take (Lib.index r m).toNat ++ m) ∧ ∃ t, r = r.take (Lib.index r m).toNat ++ m ++ t := by
  induction r generalizing p with
  | nil =>
    exfalso
    unfold Lib.index at h
    cases m with
    | nil => exact hm rfl
    | cons a m => simp at h
  | cons b l ih =>
    have hge := Lib.index_ge l m
    rw [Lib.index] at h ⊢
    by_cases hb : m.isPrefixOf (b :: l) = true
    · rw [if_pos hb] at h ⊢
      obtain ⟨t, ht⟩ := List.isPrefixOf_iff_prefix.1 hb
      refine ⟨?_, t, by simpa using ht.symm⟩
      simp only [Int.toNat_zero, List.take_zero, List.nil_append, List.append_nil]
      cases m with
      | nil => exact absurd rfl hm
      | cons a m =>
        rw [gv_cons, if_pos]
        exact List.isPrefixOf_iff_prefix.2 ⟨[], by simp⟩
    · rw [if_neg hb] at h ⊢
      by_cases h1 : Lib.index l m = -1
      · rw [h1] at h; exact absurd h (by decide)
      · have h2 : (Lib.index l m == -1) = false := by simpa using h1
        rw [h2]
        simp only [Bool.false_eq_true, if_false]
        rw [show (Lib.index l m + 1).toNat = (Lib.index l m).toNat + 1 by omega, List.take_succ_cons, List.cons_append]
        obtain ⟨e1, t, ht⟩ := ih (p := p ++ [b]) (by omega)
        refine ⟨?_, t, by rw [List.cons_append, ← ht]⟩
        rw [gv_cons, if_neg, e1]
        · simp
        · intro hb'
          apply hb
          obtain ⟨u, hu⟩ := List.isPrefixOf_iff_prefix.1 hb'
          refine List.isPrefixOf_iff_prefix.2 ⟨u ++ t, ?_⟩
          rw [← List.append_assoc, hu, List.cons_append, ← ht]
theorem law8 (mx : Int) (s p m : List UInt8) (h : s31 s p m = true) : Ret (Γm mx) 8 [.s s, .s p, .s m] (.b true) := by
  refine (ret_goes (Γ := Γm mx) hP hZ (hg8_ok mx) (by kernel_rfl) ⟨0, ?_⟩).ret (by kernel_rfl)
  rw [r8, h]
  cases hv : grpV s p m with
  | none =>
    have h1 : grpB s p m = false := by simp [grpB, hv]
    have h2 : grpS s p m = [] := by simp [grpS, hv]
    rw [h1, h2]; rfl
  | some g =>
    have h1 : grpB s p m = true := by simp [grpB, hv]
    have h2 : grpS s p m = g := by simp [grpS, hv]
    simp only [h1, h2, Bool.not_true, cond_false, cond_true]
    have hm : m ≠ [] := fun e => by simp [grpV, e] at hv
    have hb : begins s p = true := by
      cases hb : begins s p with
      | true => rfl
      | false => simp [grpV, hb] at hv
    obtain ⟨r, rfl⟩ := begins_app hb
    rw [grpV_gv p r m hm] at hv
    have hi : 0 ≤ Lib.index r m := by
      unfold gv at hv
      by_cases hi : 0 ≤ Lib.index r m
      · exact hi
      · rw [if_neg hi] at hv; exact absurd hv (by simp)
    have hg : p ++ r.take (Lib.index r m).toNat ++ m = g := by unfold gv at hv; rw [if_pos hi] at hv; exact Option.some.inj hv
    obtain ⟨e1, t, ht⟩ := gv_again (p := p) hm hi
    generalize r.take (Lib.index r m).toNat = q at hg e1 ht
    subst hg
    subst ht
    simp only [s31, Bool.and_eq_true, decide_eq_true_eq] at h
    simp only [List.length_append] at h
    have hs : s31 (p ++ q ++ m) p m = true := by
      simp only [s31, Bool.and_eq_true, decide_eq_true_eq, List.length_append]; omega
    have hs2 : short40 (p ++ q ++ m) = true := short_of (by simp only [List.length_append]; omega)
    have hs3 : short40 (escV (p ++ q ++ m)) = true := short_of (by
      have := esc_len (p ++ q ++ m)
      simp only [List.length_append] at this; omega)
    have b1 : begins (p ++ (q ++ m ++ t)) (p ++ q ++ m) = true := by
      rw [show p ++ (q ++ m ++ t) = (p ++ q ++ m) ++ t by simp]; exact app_begins _ _
    have b2 : begins (p ++ q ++ m) p = true := by rw [List.append_assoc]; exact app_begins _ _
    have hw1 : IntKind.wrap .i64 ((p.length : Int) + (m.length : Int)) = (p.length : Int) + (m.length : Int) := wrap_id (by omega) (by omega)
    have hw2 : IntKind.wrap .i64 (((p ++ q ++ m).length : Int) - (m.length : Int)) = ((p ++ q).length : Int) := by
      rw [show ((p ++ q ++ m).length : Int) - (m.length : Int) = ((p ++ q).length : Int) by simp only [List.length_append]; omega]
      exact wrap_id (by omega) (by simp <;> omega)
    have d1 : decide (((p ++ q ++ m).length : Int) ≥ (p.length : Int) + (m.length : Int)) = true := decide_eq_true (by simp <;> omega)
    have d2 : (decide ((0 : Int) ≤ ((p ++ q).length : Int)) && decide (((p ++ q).length : Int) ≤ ((p ++ q ++ m).length : Int))) = true := by
      simp only [Bool.and_eq_true, decide_eq_true_eq, List.length_append]; omega
    have e3 : List.take ((p ++ q ++ m).length - ((p ++ q).length : Int).toNat) (List.drop ((p ++ q).length : Int).toNat (p ++ q ++ m)) = m := by
      rw [Int.toNat_natCast, List.drop_left]
      exact List.take_of_length_le (by simp <;> omega)
    have hv2 : grpV (p ++ q ++ m) p m = some (p ++ q ++ m) := by rw [List.append_assoc, grpV_gv p (q ++ m) m hm, e1, List.append_assoc]
    have g1 : grpB (p ++ q ++ m) p m = true := by unfold grpB; rw [hv2]; rfl
    have g2 : grpS (p ++ q ++ m) p m = p ++ q ++ m := by unfold grpS; rw [hv2]; rfl
    have hu := (unS_esc (p ++ q ++ m)).2
    have z : ((0 : Int) != 5) = true := rfl
    simp only [hs, hs2, hs3, b1, b2, hw1, hw2, d1, d2, e3, g1, g2, hu, z, cond_true, beq_self_eq_true]
theorem s31_of {s p m : List UInt8} (h1 : s.length ≤ 1048576) (h2 : p.length ≤ 1048576) (h3 : m.length ≤ 1048576) : s31 s p m = true := by
  simp only [s31, Bool.and_eq_true, decide_eq_true_eq]; omega
theorem law5g (mx : Int) (s p m : List UInt8) (h1 : s.length ≤ 1048576) (h2 : p.length ≤ 1048576) (h3 : m.length ≤ 1048576) : Ret (Γm mx) 5 [.s s, .s p, .s m] (.b true) := law5 mx s p m (s31_of h1 h2 h3)
theorem law8g (mx : Int) (s p m : List UInt8) (h1 : s.length ≤ 1048576) (h2 : p.length ≤ 1048576) (h3 : m.length ≤ 1048576) : Ret (Γm mx) 8 [.s s, .s p, .s m] (.b true) := law8 mx s p m (s31_of h1 h2 h3)
theorem in_world {W : World} {a : Addr} {v : Value} (h : W.cell? a = some v) : a.block < W.heap.size := by
  refine Nat.lt_of_not_le fun hn => ?_
  have : W.heap[a.block]? = none := Array.getElem?_eq_none hn
  simp [World.cell?, this] at h
end Go.Proofs.YtdelibcanngipaaDoor.V
