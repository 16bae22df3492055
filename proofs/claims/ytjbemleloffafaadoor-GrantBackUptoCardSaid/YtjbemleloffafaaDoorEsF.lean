/- The document's Unescape; escaping and reading back are each other's. -/
import Derived.Test.YtjbemleloffafaaDoorEsE
namespace Go.Proofs.YtjbemleloffafaaDoor.V
open Go
set_option maxRecDepth 100000
set_option linter.unusedVariables false
set_option linter.unusedSimpArgs false
variable {mx : Int}

theorem refUn_goes : ∀ (n : Nat) (rest pre out s : List UInt8) (i : Int) (_ : rest.length ≤ n) (hs : s = pre ++ rest) (hi : i = (pre.length : Int)) (hl : s.length ≤ 1099511627776) (hb : out.length + rest.length ≤ 4398046511104),
    Goes (Γ mx) Hesc 49 3 ⟨[(0, .s s), (4, .s out), (5, .i .i64 i)], []⟩ (unR out (unV rest), [])
  | n, [], pre, out, s, i, hn, hs, hi, hl, hb => by
    subst hs hi
    refine Goes.step ⟨0, ?_⟩
    rw [r49_3a]
    have d1 : decide ((pre.length : Int) < (pre.length : Int)) = false := decide_eq_false (by omega)
    simp only [List.append_nil, d1, cond_false, unV, unR]
  | 0, c :: r, pre, out, s, i, hn, hs, hi, hl, hb => by simp at hn
  | n + 1, c :: r, pre, out, s, i, hn, hs, hi, hl, hb => by
    subst hs hi
    simp only [List.length_append, List.length_cons] at hl hb hn
    refine Goes.step ?_
    have d1 : decide ((pre.length : Int) < ((pre ++ c :: r).length : Int)) = true := decide_eq_true (by simp <;> omega)
    have hw : IntKind.wrap .i64 ((pre.length : Int) + 1) = (pre.length : Int) + 1 := wrap_id (by omega) (by omega)
    have hw2 : IntKind.wrap .i64 ((pre.length : Int) + 2) = (pre.length : Int) + 2 := wrap_id (by omega) (by omega)
    have hw3 : IntKind.wrap .i64 ((pre.length : Int) + 2 + 1) = (pre.length : Int) + 2 + 1 := wrap_id (by omega) (by omega)
    cases hp : plainB c with
    | true =>
      obtain ⟨k, hk⟩ := refUn_goes n r (pre ++ [c]) (out ++ [c]) (pre ++ c :: r) ((pre.length : Int) + 1) (by omega) (by simp) (by simp) (by simp <;> omega) (by simp <;> omega)
      refine ⟨k, ?_⟩
      rw [r49_3a]
      have d2 : (decide ((0 : Int) ≤ (pre.length : Int) + 1) && decide ((pre.length : Int) + 1 ≤ ((pre ++ c :: r).length : Int))) = true := by simp <;> omega
      have d3 : (decide ((0 : Int) ≤ (pre.length : Int)) && decide ((pre.length : Int) ≤ (Int.toNat ((pre.length : Int) + 1) : Int))) = true := by simp <;> omega
      have d4 : decide (out.length + ([c] : List UInt8).length ≤ maxStr) = true := fits_max (by simp <;> omega)
      simp only [d1, cond_true, idx_mid, plainZ_B, hp, hw, d2, d3, cut_one, d4]
      rw [hk, unV_plain (ne37 hp) hp, unR_more]
    | false =>
      by_cases hc : c = 37
      · subst hc
        have n37 : (((37 : UInt8).toNat : Int) != 37) = false := rfl
        match r, hl, hb, hn with
        | [], hl, hb, hn =>
          refine ⟨0, ?_⟩
          rw [r49_3a]
          have d2 : decide ((pre.length : Int) + 2 ≥ ((pre ++ [37]).length : Int)) = true := decide_eq_true (by simp <;> omega)
          simp only [d1, cond_true, cond_false, idx_mid, plainZ_B, hp, n37, hw2, d2]
          rfl
        | [d], hl, hb, hn =>
          refine ⟨0, ?_⟩
          rw [r49_3a]
          have d2 : decide ((pre.length : Int) + 2 ≥ ((pre ++ [37, d]).length : Int)) = true := decide_eq_true (by simp <;> omega)
          simp only [d1, cond_true, cond_false, idx_mid, plainZ_B, hp, n37, hw2, d2]
          simp [unV, unR]
        | h :: l :: r', hl, hb, hn =>
          simp only [List.length_cons] at hl hb hn
          have d2 : decide ((pre.length : Int) + 2 ≥ ((pre ++ 37 :: h :: l :: r').length : Int)) = false := decide_eq_false (by simp <;> omega)
          have dz : ∀ x : UInt8, digitZ (x.toNat : Int) = digV x := fun _ => rfl
          rw [unV_37]
          by_cases h1 : digV h < 0
          · refine ⟨0, ?_⟩
            rw [r49_3a]
            simp only [d1, cond_true, cond_false, idx_mid, plainZ_B, hp, n37, hw, hw2, d2, idx_mid1, idx_mid2, dz, decide_eq_true h1, if_pos (Or.inl h1), unR]
          · by_cases h2 : digV l < 0
            · refine ⟨0, ?_⟩
              rw [r49_3a]
              simp only [d1, cond_true, cond_false, idx_mid, plainZ_B, hp, n37, hw, hw2, d2, idx_mid1, idx_mid2, dz, decide_eq_false h1, decide_eq_true h2, if_pos (Or.inr h2), unR]
            · rw [if_neg (by rintro (h | h) <;> contradiction)]
              cases hp2 : plainB (byteV h l) with
              | true =>
                refine ⟨0, ?_⟩
                rw [r49_3a]
                simp only [d1, cond_true, cond_false, idx_mid, plainZ_B, hp, n37, hw, hw2, d2, idx_mid1, idx_mid2, dz, decide_eq_false h1, decide_eq_false h2, val15 h1 h2, hp2, if_true, unR]
              | false =>
                obtain ⟨k, hk⟩ := refUn_goes n r' (pre ++ [37, h, l]) (out ++ [byteV h l]) (pre ++ 37 :: h :: l :: r') ((pre.length : Int) + 2 + 1) (by omega) (by simp) (by simp <;> omega) (by simp <;> omega) (by simp <;> omega)
                refine ⟨k, ?_⟩
                rw [r49_3a]
                have d4 : decide (out.length + ([byteV h l] : List UInt8).length ≤ maxStr) = true := fits_max (by simp <;> omega)
                simp only [d1, cond_true, cond_false, idx_mid, plainZ_B, hp, n37, hw, hw2, hw3, d2, idx_mid1, idx_mid2, dz, decide_eq_false h1, decide_eq_false h2, val15 h1 h2, hp2]
                rw [show [D.int .u8 ((byteV h l).toNat : Int)] = bytesD [byteV h l] from rfl, kBytes_bytesD]
                simp only [d4, cond_true]
                rw [hk]
                simp only [Bool.false_eq_true, if_false, unR_more]
      · refine ⟨0, ?_⟩
        rw [r49_3a]
        have n37 : ((c.toNat : Int) != 37) = true := by
          have := is37 c
          rw [decide_eq_false hc] at this
          simp only [bne, this, Bool.not_false]
        simp only [d1, cond_true, cond_false, idx_mid, plainZ_B, hp, n37, unV_bad hc hp, unR]
theorem refUn_ret {s : List UInt8} (hl : s.length ≤ 1099511627776) : RetX (Γ mx) 49 [.s s] [] (.tuple [.s (unS s), .i .i64 (unE s)]) [] := by
  refine ret_goes hP hZ esc_ok (by kernel_rfl) ?_
  obtain ⟨n, hn⟩ := refUn_goes _ s [] [] s 0 (Nat.le_refl _) rfl rfl hl (by simp <;> omega)
  exact ⟨n, by rw [r49, ← unR_eq]; exact hn⟩

/-! ### the pure laws -/
/-- of a byte that does not stand as it is: two digits, which are read as it -/
theorem enc_dec (c : UInt8) (h : plainB c = false) : ¬ digV (hx (c.toNat / 16)) < 0 ∧ ¬ digV (hx (c.toNat % 16)) < 0 ∧ byteV (hx (c.toNat / 16)) (hx (c.toNat % 16)) = c := by
  have := (by decide +kernel : ∀ n : Nat, n < 256 → ¬ digV (hx (n / 16)) < 0 ∧ ¬ digV (hx (n % 16)) < 0 ∧ byteV (hx (n / 16)) (hx (n % 16)) = UInt8.ofNat n) c.toNat c.toNat_lt
  rw [UInt8.ofNat_toNat] at this
  exact this
theorem un_esc : ∀ s : List UInt8, unV (escV s) = some s
  | [] => rfl
  | c :: r => by
    unfold escV encB
    cases hp : plainB c with
    | true =>
      simp only [if_true, List.cons_append, List.nil_append]
      rw [unV_plain (ne37 hp) hp, un_esc r]; rfl
    | false =>
      obtain ⟨h1, h2, h3⟩ := enc_dec c hp
      simp only [Bool.false_eq_true, if_false, List.cons_append, List.nil_append]
      rw [unV_37, if_neg (by rintro (h | h) <;> contradiction), h3, hp, un_esc r]; rfl
/-- two digits are those of the byte that they are read as -/
theorem dec_enc (h l : UInt8) (h1 : ¬ digV h < 0) (h2 : ¬ digV l < 0) : hx ((byteV h l).toNat / 16) = h ∧ hx ((byteV h l).toNat % 16) = l := by
  obtain ⟨a, ha, e1⟩ := dig_nat h h1
  obtain ⟨b, hb, e2⟩ := dig_nat l h2
  have hn := byte_nat ha hb e1 e2
  have hn : (byteV h l).toNat = a * 16 + b := by omega
  have key := (by decide +kernel : ∀ n : Nat, n < 256 → ¬ digitZ (n : Int) < 0 → hx (digitZ (n : Int)).toNat = UInt8.ofNat n)
  have k1 := key h.toNat h.toNat_lt h1
  have k2 := key l.toNat l.toNat_lt h2
  rw [UInt8.ofNat_toNat] at k1 k2
  have e1' : (digitZ (h.toNat : Int)).toNat = a := by have : digitZ (h.toNat : Int) = (a : Int) := e1; omega
  have e2' : (digitZ (l.toNat : Int)).toNat = b := by have : digitZ (l.toNat : Int) = (b : Int) := e2; omega
  rw [e1'] at k1
  rw [e2'] at k2
  rw [hn, show (a * 16 + b) / 16 = a by omega, show (a * 16 + b) % 16 = b by omega]
  exact ⟨k1, k2⟩
theorem esc_un : ∀ (n : Nat) (s c : List UInt8), s.length ≤ n → unV s = some c → escV c = s
  | n, [], c, _, h => by simp [unV] at h; subst h; rfl
  | 0, x :: r, c, hn, h => by simp at hn
  | n + 1, x :: r, c, hn, h => by
    simp only [List.length_cons] at hn
    by_cases hx37 : x = 37
    · subst hx37
      match r, hn, h with
      | [], hn, h => simp [unV] at h
      | [d], hn, h => simp [unV] at h
      | a :: b :: r', hn, h =>
        rw [unV_37] at h
        split at h
        · simp at h
        · rename_i hd
          have h1 : ¬ digV a < 0 := fun e => hd (.inl e)
          have h2 : ¬ digV b < 0 := fun e => hd (.inr e)
          split at h
          · simp at h
          · rename_i hpl
            obtain ⟨c', hc', rfl⟩ := Option.map_eq_some_iff.1 h
            have ih := esc_un n r' c' (by simp at hn; omega) hc'
            obtain ⟨g1, g2⟩ := dec_enc a b h1 h2
            unfold escV encB
            rw [if_neg hpl, g1, g2, ih]; rfl
    · cases hp : plainB x with
      | true =>
        rw [unV_plain hx37 hp] at h
        obtain ⟨c', hc', rfl⟩ := Option.map_eq_some_iff.1 h
        have ih := esc_un n r c' (by omega) hc'
        unfold escV encB
        rw [if_pos hp, ih]; rfl
      | false => rw [unV_bad hx37 hp] at h; simp at h
/-- what is escaped holds no blank, no = and no & -/
def okB (c : UInt8) : Bool := !(decide ((c.toNat : Int) ≤ 32)) && !((c.toNat : Int) == 61) && !((c.toNat : Int) == 38) && !(decide ((c.toNat : Int) > 126))
theorem enc_ok (c : UInt8) : (encB c).all okB = true := by
  have := (by decide +kernel : ∀ n : Nat, n < 256 → (encB (UInt8.ofNat n)).all okB = true) c.toNat c.toNat_lt
  rwa [UInt8.ofNat_toNat] at this
theorem esc_all : ∀ s : List UInt8, (escV s).all okB = true
  | [] => rfl
  | c :: r => by unfold escV; rw [List.all_append, enc_ok c, esc_all r]; rfl
theorem esc_len : ∀ s : List UInt8, (escV s).length ≤ 3 * s.length
  | [] => Nat.le_refl _
  | c :: r => by
    have := esc_len r
    unfold escV encB
    split <;> simp <;> omega
theorem un_len : ∀ (n : Nat) (s c : List UInt8), s.length ≤ n → unV s = some c → c.length ≤ s.length := fun n s c hn h => by
  have := esc_un n s c hn h
  rw [← this]
  clear this h
  induction c with
  | nil => simp
  | cons a r ih => unfold escV encB; split <;> simp <;> omega
end Go.Proofs.YtjbemleloffafaaDoor.V
