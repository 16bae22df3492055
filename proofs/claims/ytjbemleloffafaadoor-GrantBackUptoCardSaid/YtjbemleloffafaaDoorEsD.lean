/- label.Unescape, and the document's Escape and Unescape: their loops. -/
import Derived.Test.YtjbemleloffafaaDoorEsC
namespace Go.Proofs.YtjbemleloffafaaDoor.V
open Go
set_option maxRecDepth 100000
set_option linter.unusedVariables false
set_option linter.unusedSimpArgs false
variable {mx : Int}

def unR (out : List UInt8) (o : Option (List UInt8)) : AV := match o with
  | some r => .tuple [.s (out ++ r), .i .i64 0]
  | none => .tuple [.s [], .i .i64 5]
theorem unR_more (out : List UInt8) (b : UInt8) (o : Option (List UInt8)) : unR out (o.map (b :: ·)) = unR (out ++ [b]) o := by
  cases o <;> simp [unR]
theorem dgt (c : UInt8) : idxZ ([48, 49, 50, 51, 52, 53, 54, 55, 56, 57, 65, 66, 67, 68, 69, 70] : List UInt8) (c.toNat : Int) = digV c :=
  (by decide +kernel : ∀ n : Nat, n < 256 → idxZ ([48, 49, 50, 51, 52, 53, 54, 55, 56, 57, 65, 66, 67, 68, 69, 70] : List UInt8) (n : Int) = digitZ (n : Int)) c.toNat c.toNat_lt
theorem dig_nat (c : UInt8) (h : ¬ digV c < 0) : ∃ a : Nat, a < 16 ∧ digV c = (a : Int) := by
  have := (by decide +kernel : ∀ n : Nat, n < 256 → digitZ (n : Int) < 16) c.toNat c.toNat_lt
  exact ⟨(digV c).toNat, by unfold digV at *; omega, by omega⟩
theorem byte_nat {h l : UInt8} {a b : Nat} (ha : a < 16) (hb : b < 16) (e1 : digV h = (a : Int)) (e2 : digV l = (b : Int)) : ((byteV h l).toNat : Int) = (a : Int) * 16 + (b : Int) := by
  unfold byteV
  rw [e1, e2]
  have : ((a : Int) * 16 + (b : Int)).toNat = a * 16 + b := by omega
  rw [this, UInt8.toNat_ofNat']
  omega
theorem val14 {h l : UInt8} (hh : ¬ digV h < 0) (hl : ¬ digV l < 0) : IntKind.wrap .u8 (IntKind.wrap .i64 ((BitVec.ofInt 64 (shlV .i64 (digV h) 4) ||| BitVec.ofInt 64 (digV l)).toNat : Int)) = ((byteV h l).toNat : Int) := by
  obtain ⟨a, ha, e1⟩ := dig_nat h hh
  obtain ⟨b, hb, e2⟩ := dig_nat l hl
  rw [byte_nat ha hb e1 e2, e1, e2]
  exact (by decide +kernel : ∀ a : Nat, a < 16 → ∀ b : Nat, b < 16 → IntKind.wrap .u8 (IntKind.wrap .i64 ((BitVec.ofInt 64 (shlV .i64 (a : Int) 4) ||| BitVec.ofInt 64 (b : Int)).toNat : Int)) = (a : Int) * 16 + (b : Int)) a ha b hb
theorem val15 {h l : UInt8} (hh : ¬ digV h < 0) (hl : ¬ digV l < 0) : IntKind.wrap .u8 (IntKind.wrap .i64 ((IntKind.wrap .i64 ((digV h) * 16)) + (digV l))) = ((byteV h l).toNat : Int) := by
  obtain ⟨a, ha, e1⟩ := dig_nat h hh
  obtain ⟨b, hb, e2⟩ := dig_nat l hl
  rw [byte_nat ha hb e1 e2, e1, e2]
  exact (by decide +kernel : ∀ a : Nat, a < 16 → ∀ b : Nat, b < 16 → IntKind.wrap .u8 (IntKind.wrap .i64 ((IntKind.wrap .i64 ((a : Int) * 16)) + (b : Int))) = (a : Int) * 16 + (b : Int)) a ha b hb
theorem is37 (c : UInt8) : ((c.toNat : Int) == 37) = decide (c = 37) := by
  by_cases h : c = 37
  · subst h; rfl
  · rw [decide_eq_false h]
    have : c.toNat ≠ 37 := fun e => h (UInt8.toNat_inj.1 (by rw [e]; rfl))
    simp; omega
theorem not37 : plainB 37 = false := by decide
theorem unV_37 (h l : UInt8) (r : List UInt8) : unV (37 :: h :: l :: r) = if digV h < 0 ∨ digV l < 0 then none else if plainB (byteV h l) = true then none else (unV r).map (byteV h l :: ·) := by simp [unV]
theorem ne37 {c : UInt8} (h : plainB c = true) : c ≠ 37 := fun e => by rw [e, not37] at h; simp at h

/-! ### label.Unescape -/
theorem un_goes : ∀ (n : Nat) (rest pre out s : List UInt8) (i : Int) (_ : rest.length ≤ n) (hs : s = pre ++ rest) (hi : i = (pre.length : Int)) (hl : s.length ≤ 1099511627776) (hb : out.length + rest.length ≤ 4398046511104),
    Goes (Γ mx) Hesc 60 3 ⟨[(0, .s s), (4, .ref 5 0), (5, .i .i64 i)], [some (.arr 5 (bytesD out) false)]⟩ (unR out (unV rest), [])
  | n, [], pre, out, s, i, hn, hs, hi, hl, hb => by
    subst hs hi
    refine Goes.step ⟨0, ?_⟩
    rw [r60_3b]
    have d1 : decide ((pre.length : Int) < (pre.length : Int)) = false := decide_eq_false (by omega)
    simp only [List.append_nil, d1, cond_false, kBytes_bytesD, unV, unR]
  | 0, c :: r, pre, out, s, i, hn, hs, hi, hl, hb => by simp at hn
  | n + 1, c :: r, pre, out, s, i, hn, hs, hi, hl, hb => by
    subst hs hi
    simp only [List.length_append, List.length_cons] at hl hb hn
    refine Goes.step ?_
    have d1 : decide ((pre.length : Int) < ((pre ++ c :: r).length : Int)) = true := decide_eq_true (by simp <;> omega)
    have hw : IntKind.wrap .i64 ((pre.length : Int) + 1) = (pre.length : Int) + 1 := wrap_id (by omega) (by omega)
    have hw2 : IntKind.wrap .i64 ((pre.length : Int) + 2) = (pre.length : Int) + 2 := wrap_id (by omega) (by omega)
    have hw3 : IntKind.wrap .i64 ((pre.length : Int) + 2 + 1) = (pre.length : Int) + 2 + 1 := wrap_id (by omega) (by omega)
    have q1 : roomB (out.length + 1) 1 = true := room_ok (by omega)
    by_cases hc : c = 37
    · subst hc
      match r, hl, hb, hn with
      | [], hl, hb, hn =>
        refine ⟨0, ?_⟩
        rw [r60_3b]
        have d2 : decide (IntKind.wrap .i64 (((pre ++ [37]).length : Int) - (pre.length : Int)) < 3) = true := by
          have e : (((pre ++ [37]).length : Nat) : Int) - (pre.length : Int) = 1 := by simp <;> omega
          rw [e]; rfl
        simp only [d1, cond_true, idx_mid, is37, decide_true, d2]
        rfl
      | [d], hl, hb, hn =>
        refine ⟨0, ?_⟩
        rw [r60_3b]
        have d2 : decide (IntKind.wrap .i64 (((pre ++ [37, d]).length : Int) - (pre.length : Int)) < 3) = true := by
          have e : (((pre ++ [37, d]).length : Nat) : Int) - (pre.length : Int) = 2 := by simp <;> omega
          rw [e]; rfl
        simp only [d1, cond_true, idx_mid, is37, decide_true, d2]
        simp [unV, unR]
      | h :: l :: r', hl, hb, hn =>
        simp only [List.length_cons] at hl hb hn
        have d2 : decide (IntKind.wrap .i64 (((pre ++ 37 :: h :: l :: r').length : Int) - (pre.length : Int)) < 3) = false := by
          have e : (((pre ++ 37 :: h :: l :: r').length : Nat) : Int) - (pre.length : Int) = (r'.length : Int) + 3 := by simp <;> omega
          rw [e, wrap_id (by omega) (by omega)]
          exact decide_eq_false (by omega)
        rw [unV_37]
        by_cases h1 : digV h < 0
        · refine ⟨0, ?_⟩
          rw [r60_3b]
          simp only [d1, cond_true, cond_false, idx_mid, is37, decide_true, d2, hw, hw2, idx_mid1, idx_mid2, dgt, decide_eq_true h1, if_pos (Or.inl h1), unR]
        · by_cases h2 : digV l < 0
          · refine ⟨0, ?_⟩
            rw [r60_3b]
            simp only [d1, cond_true, cond_false, idx_mid, is37, decide_true, d2, hw, hw2, idx_mid1, idx_mid2, dgt, decide_eq_false h1, decide_eq_true h2, if_pos (Or.inr h2), unR]
          · rw [if_neg (by rintro (h | h) <;> contradiction)]
            cases hp : plainB (byteV h l) with
            | true =>
              refine ⟨0, ?_⟩
              rw [r60_3b]
              simp only [d1, cond_true, cond_false, idx_mid, is37, decide_true, d2, hw, hw2, idx_mid1, idx_mid2, dgt, decide_eq_false h1, decide_eq_false h2, val14 h1 h2, among_plain, hp, if_true, unR]
            | false =>
              obtain ⟨k, hk⟩ := un_goes n r' (pre ++ [37, h, l]) (out ++ [byteV h l]) (pre ++ 37 :: h :: l :: r') ((pre.length : Int) + 2 + 1) (by omega) (by simp) (by simp <;> omega) (by simp <;> omega) (by simp <;> omega)
              refine ⟨k, ?_⟩
              rw [r60_3b]
              simp only [d1, cond_true, cond_false, idx_mid, is37, decide_true, d2, hw, hw2, hw3, idx_mid1, idx_mid2, dgt, decide_eq_false h1, decide_eq_false h2, val14 h1 h2, among_plain, hp, bytesD_len, q1]
              rw [← bytesD_snoc, hk]
              simp only [Bool.false_eq_true, if_false, unR_more]
    · cases hp : plainB c with
      | true =>
        obtain ⟨k, hk⟩ := un_goes n r (pre ++ [c]) (out ++ [c]) (pre ++ c :: r) ((pre.length : Int) + 1) (by omega) (by simp) (by simp) (by simp <;> omega) (by simp <;> omega)
        refine ⟨k, ?_⟩
        rw [r60_3b]
        simp only [d1, cond_true, cond_false, idx_mid, is37, decide_eq_false hc, among_plain, hp, Bool.not_true, hw, bytesD_len, q1]
        rw [← bytesD_snoc, hk, unV_plain hc hp, unR_more]
      | false =>
        refine ⟨0, ?_⟩
        rw [r60_3b]
        simp only [d1, cond_true, cond_false, idx_mid, is37, decide_eq_false hc, among_plain, hp, Bool.not_false, unV_bad hc hp, unR]
end Go.Proofs.YtjbemleloffafaaDoor.V
